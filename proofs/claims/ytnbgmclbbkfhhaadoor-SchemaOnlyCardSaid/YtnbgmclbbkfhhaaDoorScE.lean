import Derived.Test.YtnbgmclbbkfhhaaDoorScD
import Derived.Test.YtnbgmclbbkfhhaaDoorAb34
set_option linter.unusedSimpArgs false
set_option linter.unusedVariables false
set_option linter.unusedSectionVars false
set_option maxRecDepth 20000
set_option maxHeartbeats 1000000
namespace Go.Proofs.YtnbgmclbbkfhhaaDoor.B
open Go Go.Ab
theorem in_int {D M n : Nat} {v : V} {t : TypeId} {k : IntKind} (hu : Tryd.prog.underlying t = some (.int k)) (hg : Ab.isAgg Tryd.prog t = false) (h : ShpV Tryd.prog D M n t v) : ∃ i, v = .int k i ∧ (Lit.int k i).wf = true := by
  unfold ShpV at h
  rw [if_neg (by rw [hg]; simp)] at h
  exact shp_int hu h
theorem wf_u32 {c : Int} (h : (Lit.int .u32 c).wf = true) : 0 ≤ c ∧ c < 4294967296 := by
  simp [Lit.wf, IntKind.min, IntKind.max] at h; omega
theorem wf_u64 {c : Int} (h : (Lit.int .u64 c).wf = true) : 0 ≤ c ∧ c < 18446744073709551616 := by
  simp [Lit.wf, IntKind.min, IntKind.max] at h; omega
theorem wf_i64 {c : Int} (h : (Lit.int .i64 c).wf = true) : -9223372036854775808 ≤ c ∧ c < 9223372036854775808 := by
  simp [Lit.wf, IntKind.min, IntKind.max] at h; omega
theorem flat : laidFlat Tryd.prog = true := by kernel_rfl

noncomputable def k_aliveA : Ab.Spec := anyF k_alive
noncomputable def T_aliveA : CallF := withF T_alive 9 k_aliveA
theorem T_aliveA_ok : CallOk Tryd.prog T_aliveA := con_any T_alive_ok (fun _ _ => rfl)
/-! rows with some cells turned -/
noncomputable def k_Clone3 : Ab.Spec := con1 some fun v objs => match rowR objs v with | some row => bnd (row.length * 40) 140737488355328 (if isNils v = false then some (.lst (.fresh 3 true) (flatV ceV row) row.length, none) else none) | none => none
noncomputable def T_Clone3 : CallF := withF T_aliveA 60 k_Clone3
theorem T_Clone3_ok : CallOk Tryd.prog T_Clone3 := con_of (A := annOf [] [5,7] [] false []) fit T_aliveA_ok (fn := Tryd.f60) (by kernel_rfl) (by kernel_rfl) (by
  intro args objs r h0
  obtain ⟨v, _, rfl, hv, hR⟩ := con1_inv h0
  cases hv
  split at hR
  case h_2 => cases hR
  rename_i row hr
  obtain ⟨hl, hR⟩ := bnd_inv hR
  split at hR
  case isFalse => cases hR
  rename_i hnn
  cases hR
  obtain ⟨hw, vd, vn, vi, vk⟩ := rowF hr
  have hone : (flatV ceV row).all oneCell = true := List.all_eq_true.2 fun u hu => by
    obtain ⟨x, hx, h⟩ := List.mem_flatMap.1 hu
    have := (one_ofR (ceOk_inv ((rowR_inv hr).2 x hx)).2.1).2.1
    simp only [ceV, List.mem_cons, List.not_mem_nil, or_false] at h
    rcases h with rfl | rfl | rfl
    · rfl
    · rfl
    · exact this
  have hrf : norefs objs.length (flatV ceV row) = true := norefs_iff.2 fun u hu => by
    obtain ⟨x, hx, h⟩ := List.mem_flatMap.1 hu
    have := v_noref (ceOk_inv ((rowR_inv hr).2 x hx)).2.1 (Nat.le_refl _)
    simp only [ceV, List.mem_cons, List.not_mem_nil, or_false] at h
    rcases h with rfl | rfl | rfl
    · rfl
    · rfl
    · exact this
  have hsrc := fun m => (hw.app m).src hone 82
  have hfl := flatV_len ceV_len row
  have hm3 : (row.length * 3) % 3 = 0 := Nat.mul_mod_left _ _
  have hd3 : row.length * 3 / 3 = row.length := Nat.mul_div_cancel _ (by omega)
  have hv1 : isNils v = false := hnn
  have hneq : binV Tryd.prog .eql 25 v .nils = some (.bool false) := by
    rcases hw.2 with (rfl | ⟨rfl, -⟩) | ⟨id, ver, off, os, rfl, -⟩
    · simp [binV, nilFit, nilEq]
    · cases hnn
    · simp [binV, nilFit, nilEq]
  refine .go _ rfl rfl ?_
  simp -implicitDefEqProofs (disch := omega) [-binV, -srcOf_eq, hneq, clit0, hsrc, hfl, hm3, hd3, hrf])
def cloneB (o : Nat) (a : V) (l : List Int) : V := if isNils a = true then .nils else .ref (o + 2) 0 0 l.length 1
def cloneO (o : Nat) (n : Bool) (i : Int) (a : V) (l : List Int) : List AO := .cells [.bool n, .int .i64 i, cloneB o a l] 0 :: .cells [.bool n, .int .i64 i, cloneB o a l] 0 :: (if isNils a = true then [] else [.cells (ints .u8 l) 0])
noncomputable def k_cloneK : Ab.Spec := con1 some fun v objs => match v with
  | .agg [.bool n, .int .i64 i, a] => match ofIntsR .u8 objs a with
    | some l => bnd l.length 140737488355300 (some (.agg [.bool n, .int .i64 i, cloneB objs.length a l], some (objs ++ cloneO objs.length n i a l, objs.length)))
    | none => none
  | _ => none
noncomputable def T_cloneK : CallF := withF T_Clone3 61 k_cloneK
theorem T_cloneK_ok : CallOk Tryd.prog T_cloneK := con_of (A := annOf [] [] [(5, [.ref])] true []) fit T_Clone3_ok (fn := Tryd.f61) (by kernel_rfl) (by kernel_rfl) (by
  intro args objs r h0
  have c_CloneR : ∀ a o, T_Clone3 81 a o = k_CloneR a o := fun _ _ => rfl
  obtain ⟨v, _, rfl, hv, hR⟩ := con1_inv h0
  cases hv
  split at hR
  case h_2 => cases hR
  rename_i n i a
  split at hR
  case h_2 => cases hR
  rename_i l ha
  obtain ⟨hl, hR⟩ := bnd_inv hR
  cases hR
  obtain ⟨a1, a2, a3, a4⟩ := one_ofR ha
  have ha' : ∀ M, ofIntsR .u8 (objs ++ M) a = some l := fun M => ofIntsR_app ha
  refine .goK _ rfl rfl rfl ?_
  cases hn : isNils a with
  | true =>
    have h1 : cloneB objs.length a l = .nils := by unfold cloneB; rw [hn]; rfl
    have h2 : cloneO objs.length n i a l = [.cells [.bool n, .int .i64 i, .nils] 0, .cells [.bool n, .int .i64 i, .nils] 0] := by unfold cloneO; rw [h1, hn]; rfl
    simp -implicitDefEqProofs (disch := omega) [a1, a2, a3, a4, c_CloneR, k_CloneR, ha', hn, h1, h2, setCells]
  | false =>
    have h1 : cloneB objs.length a l = .ref (objs.length + 2) 0 0 l.length 1 := by unfold cloneB; rw [hn]; rfl
    have h2 : cloneO objs.length n i a l = [.cells [.bool n, .int .i64 i, .ref (objs.length + 2) 0 0 l.length 1] 0, .cells [.bool n, .int .i64 i, .ref (objs.length + 2) 0 0 l.length 1] 0, .cells (ints .u8 l) 0] := by unfold cloneO; rw [h1, hn]; rfl
    simp -implicitDefEqProofs (disch := omega) [a1, a2, a3, a4, c_CloneR, k_CloneR, ha', hn, h1, h2, setCells])
theorem clone_row {objs : List AO} {n : Bool} {i : Int} {a : V} {l : List Int} (ha : ofIntsR .u8 objs a = some l) : rowH (objs ++ cloneO objs.length n i a l) (cloneB objs.length a l) l ∧ ∀ id, idOf (cloneB objs.length a l) = some id → id = objs.length + 2 := by
  unfold cloneB cloneO
  cases hn : isNils a with
  | true =>
    have e : a = .nils := by cases a <;> first | rfl | (cases hn; done)
    rw [e] at ha
    cases ha
    exact ⟨.inl ⟨rfl, rfl⟩, fun id h => by cases h⟩
  | false => exact ⟨.inr ⟨objs.length + 2, 0, rfl, by simp⟩, fun id h => by cases h; rfl⟩
/-- The row with the sets' cells. -/
def withR (row : List Ce) (sets : List Se) : List Ce := sets.foldl (fun r s => r.set s.c.toNat s.x) row
theorem withR_len (row : List Ce) (sets : List Se) : (withR row sets).length = row.length := by
  unfold withR
  induction sets generalizing row with
  | nil => rfl
  | cons s l ih => rw [List.foldl_cons, ih, List.length_set]
theorem withR_take {row : List Ce} {sets : List Se} {i : Nat} (h : i < sets.length) : withR row (sets.take (i + 1)) = (withR row (sets.take i)).set (nth sets i).c.toNat (nth sets i).x := by
  unfold withR
  rw [take_nth h, List.foldl_append]
  rfl
theorem withR_mem {row : List Ce} {sets : List Se} : ∀ x ∈ withR row sets, x ∈ row ∨ ∃ s ∈ sets, x = s.x := by
  unfold withR
  induction sets generalizing row with
  | nil => exact fun x hx => .inl hx
  | cons s l ih =>
    intro x hx
    rw [List.foldl_cons] at hx
    rcases ih x hx with h | ⟨t, ht, h⟩
    · rcases List.mem_or_eq_of_mem_set h with h | rfl
      · exact .inl h
      · exact .inr ⟨s, by simp, rfl⟩
    · exact .inr ⟨t, by simp [ht], h⟩
theorem set_map {α β : Type} (f : α → β) (l : List α) (i : Nat) (a : α) : (l.set i a).map f = (l.map f).set i (f a) := List.map_set
theorem withR_map {row : List Ce} {sets : List Se} (f : Ce → Ce) : (withR row sets).map f = withR (row.map f) (sets.map fun s => ⟨s.c, f s.x⟩) := by
  unfold withR
  induction sets generalizing row with
  | nil => rfl
  | cons s l ih => rw [List.foldl_cons, ih, set_map, List.map_cons, List.foldl_cons]
/-- A whole cell is written into a row that stands in an object. -/
theorem flat_set {row : List Ce} {i : Nat} (h : i < row.length) (x : Ce) : setCells (flatV ceV row) (i * 3) (ceV x) = flatV ceV (row.set i x) := by
  have := flatV_set (f := ceV) ceV_len h (j := 0) (vs := ceV x) (a := x) (by show 0 + 3 ≤ 3; omega) (by
    unfold setCells
    rw [List.take_zero, List.nil_append, List.drop_of_length_le (by show (ceV _).length ≤ 0 + 3; rw [ceV_len]; omega), List.append_nil])
  rwa [Nat.add_zero] at this
/-- Sets that fit name columns. -/
theorem sets_cols {objs : List AO} {cols : List Co} {K : Int} {sets : List Se} (h : setsE objs cols K sets = 0) : chkR cols K = 0 ∧ 0 < sets.length ∧ ∀ i, i < sets.length → setE objs cols K sets i = 0 := by
  unfold setsE at h
  rcases chk_or cols K with hg | hg
  · rw [if_pos hg] at h
    split at h
    · cases h
    · rename_i hn
      refine ⟨hg, by omega, fun i hi => ?_⟩
      have key : ∀ (f : Nat → Int) (n i : Nat), firstE f n i = 0 → ∀ j, i ≤ j → j < i + n → f j = 0 := by
        intro f n
        induction n with
        | zero => intro i _ j h1 h2; omega
        | succ n ih =>
          intro i he j h1 h2
          unfold firstE at he
          split at he
          · rename_i hz
            rcases Nat.eq_or_lt_of_le h1 with rfl | h3
            · exact hz
            · exact ih (i + 1) he j h3 (by omega)
          · rename_i hz; exact absurd he hz
      exact key _ _ _ h i (Nat.zero_le _) (by omega)
  · rw [hg] at h; cases h
theorem set_range {objs : List AO} {cols : List Co} {K : Int} {sets : List Se} (h : setsE objs cols K sets = 0) {i : Nat} (hi : i < sets.length) : 0 ≤ (nth sets i).c ∧ (nth sets i).c < cols.length := by
  obtain ⟨hg, -, h2⟩ := sets_cols h
  have := h2 i hi
  unfold setE at this
  split at this
  · cases this
  · rename_i hm
    have hp := chk_pos hg
    unfold misP at hm
    omega
theorem row_len {objs : List AO} {cols : List Co} {K : Int} {row : List Ce} (h : rowE objs cols K row = 0) : chkR cols K = 0 ∧ row.length = cols.length ∧ ∀ i, i < row.length → chkC objs (nth cols i) (nth row i) = 0 := by
  unfold rowE at h
  rcases chk_or cols K with hg | hg
  · rw [if_pos hg] at h
    unfold cellsN at h
    split at h
    · rename_i hl
      refine ⟨hg, hl, fun i hi => ?_⟩
      have key : ∀ (f : Nat → Int) (n i : Nat), firstE f n i = 0 → ∀ j, i ≤ j → j < i + n → f j = 0 := by
        intro f n
        induction n with
        | zero => intro i _ j h1 h2; omega
        | succ n ih =>
          intro i he j h1 h2
          unfold firstE at he
          split at he
          · rename_i hz
            rcases Nat.eq_or_lt_of_le h1 with rfl | h3
            · exact hz
            · exact ih (i + 1) he j h3 (by omega)
          · rename_i hz; exact absurd he hz
      exact key _ _ _ h i (Nat.zero_le _) (by omega)
    · cases h
  · rw [hg] at h; cases h

end Go.Proofs.YtnbgmclbbkfhhaaDoor.B
set_option maxRecDepth 20000
set_option maxHeartbeats 1000000
namespace Go.Proofs.YtnbgmclbbkfhhaaDoor.B
open Go Go.Ab
def appE (objs : List AO) (cols : List Co) (K : Int) (row : List Ce) (sets : List Se) : Int := if rowE objs cols K row = 0 then setsE objs cols K sets else rowE objs cols K row
/-- Rows of cells that are told anew, each text in an object of its own. -/
structure Fresh (objs objs' : List AO) (xv : V) (want : List (Bool × Int × List Int)) : Prop where
  rows : ∃ out, rowR objs' xv = some out ∧ out.map (Ce.t objs') = want ∧ Held objs' (out.map (·.v)) (want.map fun p => p.2.2) ∧ ∀ v ∈ out.map (·.v), ∀ id, idOf v = some id → objs.length ≤ id
def ApplyP (objs : List AO) (cols : List Co) (K : Int) (row : List Ce) (sets : List Se) (r : Rs) : Prop :=
  ∃ xv objs', r = (.tup [xv, .int .i64 (appE objs cols K row sets)], some (objs', objs.length)) ∧ Old objs objs' ∧ demote xv = xv ∧ ntup xv = some xv ∧ (appE objs cols K row sets ≠ 0 → xv = .nils) ∧ (appE objs cols K row sets = 0 → Fresh objs objs' xv ((withR row sets).map (Ce.t objs)))
theorem rowH_old {objs O : List AO} {v : V} {l : List Int} (h : rowH objs v l) (ho : Old objs O) : rowH O v l := by
  rcases h with h | ⟨id, ver, rfl, h⟩
  · exact .inl h
  · exact .inr ⟨id, ver, rfl, by rw [ho.2 _ _ (getObj_lt h)]; exact h⟩
theorem nth_set_eq {α : Type} [Inhabited α] {l : List α} {i : Nat} {a : α} (h : i < l.length) : nth (l.set i a) i = a := by rw [nth_lt (by simpa using h)]; simp
theorem nth_set_ne {α : Type} [Inhabited α] {l : List α} {i j : Nat} {a : α} (h : i ≠ j) : nth (l.set i a) j = nth l j := by
  unfold nth; rw [List.getD_eq_getElem?_getD, List.getD_eq_getElem?_getD, List.getElem?_set_ne h]
/-- Rows whose first texts lie in objects of their own. -/
structure Part (objs O : List AO) (id : Nat) (W R : List Ce) (i : Nat) : Prop where
  obj : Ab.getObj O id 0 = some (flatV ceV R)
  len : R.length = W.length
  left : ∀ j, i ≤ j → j < W.length → nth R j = nth W j
  done : ∀ j, j < i → (nth R j).n = (nth W j).n ∧ (nth R j).i = (nth W j).i ∧ rowH O (nth R j).v ((nth W j).b objs) ∧ ∀ k, idOf (nth R j).v = some k → id < k
  apart : ∀ j k, j < k → k < i → ∀ x, idOf (nth R j).v = some x → idOf (nth R k).v ≠ some x
def p_ApplyK : List V → List AO → Rs → Prop := fun args objs r => match args with | [s, w, u] => ∀ cols K row sets, schD objs s = some (cols, K) → rowR objs w = some row → setsR objs u = some sets → ApplyP objs cols K row sets r | _ => False
noncomputable def k_ApplyK : Ab.Spec := relF (fun a o r => p_ApplyK a o r ∧ EndsW Tryd.prog (annOf [] [] [(28, [.ref])] true [61]) T_cloneK 26 Tryd.f26 a o r)
noncomputable def T_ApplyK : CallF := withF T_cloneK 26 k_ApplyK
theorem T_ApplyK_ok : CallOk Tryd.prog T_ApplyK := con_ofW (A := annOf [] [] [(28, [.ref])] true [61]) fit T_cloneK_ok (fn := Tryd.f26) (by kernel_rfl) (by kernel_rfl) (fun args objs r h0 => (relF_inv h0).2)
theorem s_ApplyK  {objs : List AO} {s w u : V} {cols : List Co} {K : Int} {row : List Ce} {sets : List Se} (hsc : schD objs s = some (cols, K)) (hr : rowR objs w = some row) (hu : setsR objs u = some sets) (hul : sets.length < 140737488355328) (hnn : isNils w = false) : ∃ r, k_ApplyK [s, w, u] objs = some r ∧ p_ApplyK [s, w, u] objs r := by
  have c_Row : ∀ a o, T_cloneK 16 a o = k_Row a o := fun _ _ => rfl
  have c_Sets : ∀ a o, T_cloneK 20 a o = k_Sets a o := fun _ _ => rfl
  have c_Clone3 : ∀ a o, T_cloneK 60 a o = k_Clone3 a o := fun _ _ => rfl
  have c_cloneK : ∀ a o, T_cloneK 61 a o = k_cloneK a o := fun _ _ => rfl
  refine rel_goT _ rfl rfl ?_
  obtain ⟨v, rfl, hv, vd, vo, vf, vc, vn, vi, hc, hl⟩ := schF hsc
  obtain ⟨hw, wd, wn, wi, wk⟩ := rowF hr
  obtain ⟨hu1, ud, un, ui, uk⟩ := setsF hu
  have hrk := (rowR_inv hr).2
  have huk := (setsR_inv hu).2
  obtain ⟨O0, hO0⟩ : ∃ O, O = objs ++ [.cells [v, .int .i64 K] 0] := ⟨_, rfl⟩
  have hold0 : Old objs O0 := by rw [hO0]; exact Old.ext _ _
  have hs2 := schD_old hsc hold0
  have hr2 := rowR_old hr hold0
  have hu2 := setsR_old hu hold0
  have er := rowE_old (cols := cols) (K := K) wk hold0
  have es := setsE_old (cols := cols) (K := K) uk hold0
  have fin : ∀ (P : Prop) (cols' : List Co) (K' : Int) (row' : List Ce) (sets' : List Se) (r : Rs), schD objs (.agg [v, .int .i64 K]) = some (cols', K') → rowR objs w = some row' → setsR objs u = some sets' → ApplyP objs cols K row sets r → ApplyP objs cols' K' row' sets' r := by
    intro _ cols' K' row' sets' r h1 h2 h3 h4
    rw [hsc] at h1; rw [hr] at h2; rw [hu] at h3
    cases h1; cases h2; cases h3
    exact h4
  have goal : ∀ r, ApplyP objs cols K row sets r → (match ([.agg [v, .int .i64 K], w, u] : List V) with | [s, w, u] => ∀ cols K row sets, schD objs s = some (cols, K) → rowR objs w = some row → setsR objs u = some sets → ApplyP objs cols K row sets r | _ => False) := fun r h cols' K' row' sets' h1 h2 h3 => fin True cols' K' row' sets' r h1 h2 h3 h
  by_cases hz : rowE objs cols K row = 0
  case neg =>
    have hE : appE objs cols K row sets = rowE objs cols K row := if_neg hz
    obtain ⟨E, hEE⟩ : ∃ E, E = rowE objs cols K row := ⟨_, rfl⟩
    rw [← hEE] at hz hE er
    have hz2 : (E != 0) = true := by simpa using hz
    rw [hO0] at hs2 hr2 er
    simp -implicitDefEqProofs (disch := omega) [vd, wd, c_Row, k_Row, hs2, hr2, er, hz, hz2]
    exact goal _ ⟨.nils, _, by rw [hE], Old.ext _ _, rfl, rfl, fun _ => rfl, fun q => absurd (hE ▸ q) hz⟩
  have hE0 : appE objs cols K row sets = setsE objs cols K sets := if_pos hz
  rw [hz, hO0] at er
  by_cases hy : setsE objs cols K sets = 0
  case neg =>
    obtain ⟨E, hEE⟩ : ∃ E, E = setsE objs cols K sets := ⟨_, rfl⟩
    rw [← hEE] at hy hE0 es
    have hz2 : (E != 0) = true := by simpa using hy
    rw [hO0] at hs2 hr2 hu2 es
    simp -implicitDefEqProofs (disch := omega) [vd, wd, ud, c_Row, k_Row, hs2, hr2, er, c_Sets, k_Sets, hu2, hul, es, hy, hz2]
    exact goal _ ⟨.nils, _, by rw [hE0], Old.ext _ _, rfl, rfl, fun _ => rfl, fun q => absurd (hE0 ▸ q) hy⟩
  rw [hy] at hE0
  rw [hy, hO0] at es
  obtain ⟨hg, hlen, -⟩ := row_len hz
  obtain ⟨p1, p2, p3, p4, p5⟩ := chk_pos hg
  have hrange := fun i hi => set_range hy (i := i) hi
  have hr40 : row.length * 40 < 140737488355328 := by omega
  rw [hO0] at hs2 hr2 hu2
  simp -implicitDefEqProofs (disch := omega) [vd, wd, ud, c_Row, k_Row, hs2, hr2, er, c_Sets, k_Sets, hu2, hul, es, c_Clone3, k_Clone3, hr40, hnn, un]
  obtain ⟨n, hn⟩ : ∃ n, n = objs.length := ⟨_, rfl⟩
  obtain ⟨I, hI⟩ : ∃ I : Nat → St → Prop, I = (fun (i : Nat) (z : St) => z.env 10 = .ref (objs.length + 1) 0 0 row.length 3 ∧ z.env 29 = u ∧ z.env 30 = .int .i64 sets.length ∧ z.env 31 = .int .i64 i ∧ z.toks = [] ∧ z.low = objs.length ∧ Old objs z.objs ∧ Ab.getObj z.objs (objs.length + 1) 0 = some (flatV ceV (withR row (sets.take i)))) := ⟨_, rfl⟩
  refine .up sets.length I (by rw [hI]; exact ⟨by simp, by simp, by simp, by simp, rfl, rfl, Old.ext _ _, by simp [withR]⟩) ?_
  intro i z hi hz
  rw [hI] at hz
  obtain ⟨e10, e29, e30, e31, ht, hlo, hold, hobj⟩ := hz
  obtain ⟨O, ho⟩ : ∃ O, O = z.objs := ⟨_, rfl⟩
  rw [← ho] at hold hobj
  have ho := ho.symm
  have hOl : objs.length + 1 < O.length := getObj_lt hobj
  have hOl2 : ¬ O.length < objs.length := by omega
  rcases Nat.lt_or_ge i sets.length with h | h
  · have ix := ui i h
    obtain ⟨g1, -⟩ := set_at (hu1.old hold) h
    obtain ⟨c0, c1⟩ := hrange i h
    have hk := (seOk_inv (uk i h)).2
    obtain ⟨k1, k2, k3, k4⟩ := ceOk_inv hk
    obtain ⟨S, hS⟩ : ∃ S, S = nth sets i := ⟨_, rfl⟩
    have htk := withR_take (row := row) h
    rw [← hS] at g1 c0 c1 k2 htk
    obtain ⟨c, x⟩ := S
    obtain ⟨xn, xi, xv⟩ := x
    obtain ⟨m, rfl⟩ := Int.eq_ofNat_of_zero_le c0
    simp only [Int.toNat_natCast] at htk c1 k2
    obtain ⟨a1, a2, a3, a4⟩ := one_ofR k2
    obtain ⟨A, hA⟩ : ∃ A, A = withR row (sets.take i) := ⟨_, rfl⟩
    rw [← hA] at hobj htk
    have hAl : A.length = row.length := by rw [hA, withR_len]
    have hmA : m < A.length := by omega
    have hst := flat_set hmA ⟨xn, xi, xv⟩
    rw [← htk] at hst
    simp only [ceV] at hst
    have hfl := flatV_len ceV_len A
    have hb1 : m * 3 + 3 ≤ A.length * 3 := by omega
    have hO2 : ∀ X, Ab.getObj (O ++ X) (objs.length + 1) 0 = some (flatV ceV A) := fun X => by rw [getObj_app hOl]; exact hobj
    have hmr : m < row.length := by omega
    simp only [seV, ceV] at g1
    simp -implicitDefEqProofs (disch := omega) [e10, e29, e30, e31, ht, ho, hlo, h, ix, hOl2, g1, setCells, a1, a2, a3, a4, hmr, hO2, hfl, hb1, wrap_small]
    have hst' : List.take (m * 3) (flatV ceV A) ++ V.bool xn :: V.int IntKind.i64 xi :: xv :: List.drop (m * 3 + 3) (flatV ceV A) = flatV ceV (withR row (sets.take (i + 1))) := by rw [← hst]; simp [setCells]
    rw [hI]
    refine ⟨by simp [e10], by simp [e29], by simp [e30], by simp, rfl, rfl, (hold.set (by omega)).app _, ?_⟩
    show Ab.getObj (_ ++ _) _ _ = _
    rw [getObj_app (by simpa using hOl), getObj_set hOl, hst']
  · obtain rfl : i = sets.length := by omega
    rw [List.take_length] at hobj
    obtain ⟨W, hW⟩ : ∃ W, W = withR row sets := ⟨_, rfl⟩
    rw [← hW] at hobj
    have hWl : W.length = row.length := by rw [hW, withR_len]
    have hWk : ∀ x ∈ W, ceOk objs x = true := fun x hx => by
      rw [hW] at hx
      rcases withR_mem x hx with h | ⟨s, hs, rfl⟩
      · exact hrk x h
      · exact (seOk_inv (huk s hs)).2
    simp -implicitDefEqProofs (disch := omega) [e10, e29, e30, e31, ht, ho, hlo]
    obtain ⟨J, hJ⟩ : ∃ J : Nat → St → Prop, J = (fun (i : Nat) (z : St) => z.env 10 = .ref (objs.length + 1) 0 0 row.length 3 ∧ z.env 42 = .ref (objs.length + 1) 0 0 row.length 3 ∧ z.env 43 = .int .i64 row.length ∧ z.env 44 = .int .i64 i ∧ z.toks = [] ∧ z.low = objs.length ∧ Old objs z.objs ∧ ∃ R, Part objs z.objs (objs.length + 1) W R i) := ⟨_, rfl⟩
    refine .up row.length J (by rw [hJ]; exact ⟨by simp [e10], by simp, by simp, by simp, rfl, rfl, hold, W, hobj, rfl, fun _ _ _ => rfl, fun j hj => absurd hj (by omega), fun j k _ hk => absurd hk (by omega)⟩) ?_
    clear e10 e29 e30 e31 ht hlo hold hobj ho hOl hOl2
    intro i z hi hz
    rw [hJ] at hz
    obtain ⟨e10, e42, e43, e44, ht, hlo, hold, R, hP⟩ := hz
    obtain ⟨O, ho⟩ : ∃ O, O = z.objs := ⟨_, rfl⟩
    rw [← ho] at hold hP
    have ho := ho.symm
    have hOl : objs.length + 1 < O.length := getObj_lt hP.obj
    have hOl2 : ¬ O.length < objs.length := by omega
    have hRl := hP.len
    rcases Nat.lt_or_ge i row.length with h | h
    · have hWi : ceOk objs (nth W i) = true := hWk _ (nth_mem (by omega))
      obtain ⟨k1, k2, k3, k4⟩ := ceOk_inv hWi
      have hRi := hP.left i (Nat.le_refl _) (by omega)
      have hO2 : ∀ X, Ab.getObj (O ++ X) (objs.length + 1) 0 = some (flatV ceV R) := fun X => by rw [getObj_app hOl]; exact hP.obj
      have hO1 := hP.obj
      have hfl := flatV_len ceV_len R
      have hat := flatV_at ceV_len (l := R) (i := i) (by omega)
      rw [hRi] at hat
      have hb1 : i * 3 + 3 ≤ R.length * 3 := by omega
      obtain ⟨x, hx⟩ : ∃ x, x = nth W i := ⟨_, rfl⟩
      rw [← hx] at k2 k4 hat
      obtain ⟨B, hB⟩ : ∃ B, B = x.b objs := ⟨_, rfl⟩
      rw [← hB] at k2 k4
      obtain ⟨xn, xi, xv⟩ := x
      simp only at k2
      simp only [ceV] at hat
      obtain ⟨a1, a2, a3, a4⟩ := one_ofR k2
      obtain ⟨O2, hO2e⟩ : ∃ O2, O2 = O ++ [.cells [.bool xn, .int .i64 xi, xv] 0] := ⟨_, rfl⟩
      have hold2 : Old objs O2 := by rw [hO2e]; exact hold.app _
      have hO2l : O2.length = O.length + 1 := by rw [hO2e]; simp
      have ha2 := ofIntsR_old k2 hold2
      obtain ⟨q1, q2⟩ := clone_row (n := xn) (i := xi) ha2
      obtain ⟨N, hN⟩ : ∃ N, N = cloneB O2.length xv B := ⟨_, rfl⟩
      have kk : k_cloneK [.agg [.bool xn, .int .i64 xi, xv]] O2 = some (.agg [.bool xn, .int .i64 xi, N], some (O2 ++ cloneO O2.length xn xi xv B, O2.length)) := by
        rw [hN]; simp (disch := omega) [k_cloneK, ha2]
      obtain ⟨O3, hO3⟩ : ∃ O3, O3 = O2 ++ cloneO O2.length xn xi xv B := ⟨_, rfl⟩
      rw [← hO3] at kk q1
      rw [← hN] at q1 q2
      have hN1 : demote N = N ∧ oneCell N = true ∧ isDef N = true := by
        rw [hN]; unfold cloneB; split <;> exact ⟨rfl, rfl, rfl⟩
      obtain ⟨n1, n2, n3⟩ := hN1
      have hold3 : Old objs O3 := by rw [hO3]; exact hold2.app _
      have hO23 : Old O O3 := by rw [hO3, hO2e, List.append_assoc]; exact Old.ext _ _
      have hO3l : objs.length + 1 < O3.length := by have := hO23.1; omega
      have hO4 : Ab.getObj O3 (objs.length + 1) 0 = some (flatV ceV R) := by rw [hO23.2 _ _ hOl]; exact hO1
      have hst := flat_set (row := R) (i := i) (by omega) ⟨xn, xi, N⟩
      simp only [ceV] at hst
      have hst' : List.take (i * 3) (flatV ceV R) ++ V.bool xn :: V.int IntKind.i64 xi :: N :: List.drop (i * 3 + 3) (flatV ceV R) = flatV ceV (R.set i ⟨xn, xi, N⟩) := by rw [← hst]; simp [setCells]
      have hOe : O ++ [AO.cells [V.bool xn, V.int IntKind.i64 xi, xv] 0] = O2 := hO2e.symm
      have bx : Ab.getObj O2 O.length 0 = some [V.bool xn, V.int IntKind.i64 xi, xv] := by rw [hO2e]; simp
      have hO3n : ¬ O3.length < objs.length := by omega
      have hO2n : ¬ O2.length < objs.length := by omega
      simp -implicitDefEqProofs (disch := omega) [e10, e42, e43, e44, ht, ho, hlo, h, hOl2, hO1, hfl, hb1, hat, setCells, a1, a2, a3, a4, hOe, bx, c_cloneK, kk, hO4, n1, n2, n3, hst', hO2n, wrap_small]
      rw [hJ]
      refine ⟨by simp [e10], by simp [e42], by simp [e43], by simp, rfl, rfl, hold3.set (by omega), R.set i ⟨xn, xi, N⟩, ?_, by simp [hRl], fun j hj1 hj2 => ?_, fun j hj => ?_, fun j k hjk hk y => ?_⟩
      · show Ab.getObj (O3.set _ _) _ _ = _
        rw [getObj_set hO3l]
      · rw [nth_set_ne (by omega)]; exact hP.left j (by omega) hj2
      · have same : ∀ {v : V} {l : List Int}, rowH O3 v l → (∀ k, idOf v = some k → objs.length + 1 < k) → rowH (O3.set (objs.length + 1) (.cells (flatV ceV (R.set i ⟨xn, xi, N⟩)) 0)) v l := fun h1 h2 => h1.same fun id ver e => by rw [getObj_set_ne (by have := h2 id e; omega)]
        rcases Nat.lt_or_ge j i with hj2 | hj2
        · rw [nth_set_ne (by omega)]
          obtain ⟨d1, d2, d3, d4⟩ := hP.done j hj2
          exact ⟨d1, d2, same (rowH_old d3 hO23) d4, d4⟩
        · obtain rfl : j = i := by omega
          rw [nth_set_eq (by omega), ← hx]
          have hid : ∀ k, idOf N = some k → objs.length + 1 < k := fun k hk => by have := q2 k hk; omega
          exact ⟨rfl, rfl, by rw [← hB]; exact same q1 hid, hid⟩
      · rcases Nat.lt_or_ge k i with hk2 | hk2
        · rw [nth_set_ne (by omega), nth_set_ne (by omega)]; exact hP.apart j k hjk hk2 y
        · obtain rfl : k = i := by omega
          rw [nth_set_ne (by omega), nth_set_eq (by omega)]
          intro e1 e2
          have h1 := q2 y e2
          obtain ⟨-, -, d3, -⟩ := hP.done j hjk
          rcases d3 with ⟨d3, -⟩ | ⟨id, ver, d3, d4⟩
          · rw [d3] at e1; cases e1
          · rw [d3] at e1; cases e1
            have := getObj_lt d4
            omega
    · obtain rfl : i = row.length := by omega
      simp -implicitDefEqProofs (disch := omega) [e10, e42, e43, e44, ht, ho, hlo]
      have hRt : R.map (Ce.t O) = W.map (Ce.t objs) := by
        refine ext_nth (by simp [hRl]) fun j hj => ?_
        rw [List.length_map] at hj
        rw [nth_map hj, nth_map (by omega)]
        obtain ⟨d1, d2, d3, -⟩ := hP.done j (by omega)
        unfold Ce.t
        rw [d1, d2]
        have := d3.bytes
        unfold Ce.b at this ⊢
        rw [this]; rfl
      have hRr : rowR O (.ref (objs.length + 1) 0 0 row.length 3) = some R := by
        have hlR : row.length = R.length := by omega
        rw [hlR]
        refine rowR_of ⟨flatV_len ceV_len R, .inr ⟨_, _, _, _, rfl, hP.obj, ?_, ?_⟩⟩ fun x hx => ?_
        · rw [List.drop_zero, List.take_of_length_le (by rw [flatV_len ceV_len]; omega)]
        · rw [flatV_len ceV_len]; omega
        · obtain ⟨j, hj, rfl⟩ := List.getElem_of_mem hx
          rw [← nth_lt hj]
          obtain ⟨d1, d2, d3, -⟩ := hP.done j (by omega)
          have hWj : ceOk objs (nth W j) = true := hWk _ (nth_mem (by omega))
          obtain ⟨k1, k2, k3, k4⟩ := ceOk_inv hWj
          exact (ceOk_of (by rw [d2]; exact k1) d3.bytes k3 k4).1
      refine goal _ ⟨_, _, by rw [hE0], hold, rfl, rfl, fun q => absurd hE0 q, fun _ => ⟨R, hRr, by rw [hRt, hW], ?_, ?_⟩⟩
      · rw [← hW, List.map_map]
        refine ⟨by simp [hRl], fun j hj => ?_, fun j k v1 w1 y hjk h1 h2 e1 => ?_⟩
        · rw [List.length_map] at hj
          obtain ⟨-, -, d3, -⟩ := hP.done j (by omega)
          exact ⟨(nth R j).v, by rw [List.getElem?_map, get_nth (by omega)]; rfl, by rw [nth_map hj]; exact d3⟩
        · have hk : k < R.length := by
            rcases Nat.lt_or_ge k R.length with q | q
            · exact q
            · rw [List.getElem?_eq_none (by simpa using q)] at h2; cases h2
          rw [List.getElem?_map, get_nth (by omega)] at h1 h2
          cases h1; cases h2
          exact hP.apart j k hjk (by omega) y e1
      · intro v1 hv1 id e
        obtain ⟨x, hx, rfl⟩ := List.mem_map.1 hv1
        obtain ⟨j, hj, rfl⟩ := List.getElem_of_mem hx
        rw [← nth_lt hj] at e
        have := (hP.done j (by omega)).2.2.2 id e
        omega

end Go.Proofs.YtnbgmclbbkfhhaaDoor.B
set_option maxRecDepth 20000
set_option maxHeartbeats 1000000
namespace Go.Proofs.YtnbgmclbbkfhhaaDoor.B
open Go Go.Ab
def rangeS (n : Nat) (sets : List Se) : Bool := sets.all fun s => decide (0 ≤ s.c ∧ s.c < n)
theorem rangeS_at {n : Nat} {sets : List Se} (h : rangeS n sets = true) {i : Nat} (hi : i < sets.length) : 0 ≤ (nth sets i).c ∧ (nth sets i).c < n := by
  unfold rangeS at h
  rw [List.all_eq_true] at h
  simpa using h _ (nth_mem hi)
theorem withR_tw {objs : List AO} {row : List Ce} {sets : List Se} : withR (row.map (tw objs)) (sets.map (twS objs)) = (withR row sets).map (tw objs) := by rw [withR_map]; rfl
noncomputable def k_With : Ab.Spec := con2 some some fun w u objs => match rowR objs w, setsR objs u with
  | some row, some sets => bnd (row.length * 40) 140737488355328 (bnd sets.length 140737488355328 (if rangeS row.length sets = true then some (.lst (.fresh 3 true) (flatV ceV ((withR row sets).map (tw objs))) row.length, none) else none))
  | _, _ => none
noncomputable def T_With : CallF := withF T_ApplyK 62 k_With
theorem T_With_ok : CallOk Tryd.prog T_With := con_of (A := annOf [] [] [(8, [.ref])] false []) fit T_ApplyK_ok (fn := Tryd.f62) (by kernel_rfl) (by kernel_rfl) (by
  intro args objs r h0
  have c_TwinRow : ∀ a o, T_ApplyK 24 a o = k_TwinRow a o := fun _ _ => rfl
  have c_Twin : ∀ a o, T_ApplyK 59 a o = k_Twin a o := fun _ _ => rfl
  obtain ⟨w, u, _, _, rfl, hw, hu, hR⟩ := con2_inv h0
  cases hw; cases hu
  split at hR
  case h_2 => cases hR
  rename_i row sets hr hu
  obtain ⟨hl, hR⟩ := bnd_inv hR
  obtain ⟨hul, hR⟩ := bnd_inv hR
  split at hR
  case isFalse => cases hR
  rename_i hrg
  cases hR
  obtain ⟨hw, wd, wn, wi, wk⟩ := rowF hr
  obtain ⟨hu1, ud, un, ui, uk⟩ := setsF hu
  have hrk := (rowR_inv hr).2
  have huk := (setsR_inv hu).2
  refine .go _ rfl rfl ?_
  simp -implicitDefEqProofs (disch := omega) [wd, c_TwinRow, k_TwinRow, hr]
  obtain ⟨I, hI⟩ : ∃ I : Nat → St → Prop, I = (fun (i : Nat) (z : St) => z.env 1 = u ∧ z.env 5 = .ref objs.length 0 0 row.length 3 ∧ z.env 6 = .int .i64 i ∧ z.toks = [] ∧ z.low = objs.length ∧ z.objs = objs ++ [.cells (flatV ceV ((withR row (sets.take i)).map (tw objs))) 0]) := ⟨_, rfl⟩
  refine .up sets.length I (by rw [hI]; exact ⟨by simp, by simp, by simp, rfl, rfl, by simp [withR]⟩) ?_
  intro i z hi hz
  rw [hI] at hz
  obtain ⟨e1, e5, e6, ht, hlo, ho⟩ := hz
  rcases Nat.lt_or_ge i sets.length with h | h
  · have ix := ui i h
    obtain ⟨A, hA⟩ : ∃ A, A = (withR row (sets.take i)).map (tw objs) := ⟨_, rfl⟩
    have hold := Old.ext objs [.cells (flatV ceV A) 0]
    obtain ⟨-, g1, g2, -⟩ := set_at (hu1.old hold) h
    obtain ⟨c0, c1⟩ := rangeS_at hrg h
    have hk := (seOk_inv (uk i h)).2
    obtain ⟨k1, k2, k3, k4⟩ := ceOk_inv (ce_old hk hold).1
    have hb := (ce_old hk hold).2
    rw [hb] at k2 k3 k4
    obtain ⟨S, hS⟩ : ∃ S, S = nth sets i := ⟨_, rfl⟩
    have htk := withR_take (row := row) h
    rw [← hS] at g1 g2 c0 c1 k2 k4 htk
    obtain ⟨c, x⟩ := S
    obtain ⟨B, hB⟩ : ∃ B, B = x.b objs := ⟨_, rfl⟩
    have htw : ceV (tw objs x) = [.bool x.n, .int .i64 x.i, .lst .frozen (ints .u8 B) B.length] := by rw [hB]; rfl
    rw [← hB] at k2 k4
    obtain ⟨m, rfl⟩ := Int.eq_ofNat_of_zero_le c0
    simp only [Int.toNat_natCast] at htk c1 k2 g1 g2
    have hmap : (withR row (sets.take (i + 1))).map (tw objs) = A.set m (tw objs x) := by rw [htk, hA, set_map]
    have hAl : A.length = row.length := by rw [hA, List.length_map, withR_len]
    have hmA : m < A.length := by omega
    have hst := flat_set hmA (tw objs x)
    rw [← hmap, htw] at hst
    obtain ⟨xn, xi, xv⟩ := x
    simp only at hst k2
    simp only [ceV] at g2
    obtain ⟨a1, a2, a3, a4⟩ := one_ofR k2
    have hfl := flatV_len ceV_len A
    have hb1 : m * 3 + 3 ≤ A.length * 3 := by omega
    have hmr : m < row.length := by omega
    rw [← hA] at ho
    have hst' : List.take (m * 3) (flatV ceV A) ++ V.bool xn :: V.int IntKind.i64 xi :: V.lst .frozen (ints .u8 B) B.length :: List.drop (m * 3 + 3) (flatV ceV A) = flatV ceV ((withR row (sets.take (i + 1))).map (tw objs)) := by rw [← hst]; simp [setCells]
    simp -implicitDefEqProofs (disch := omega) [e1, e5, e6, ht, ho, hlo, un, h, ix, set_f0, set_f1, g1, g2, a1, a2, a3, a4, c_Twin, k_Twin, k2, k4, hmr, hfl, hb1, setCells, hst', wrap_small]
    rw [hI]
    exact ⟨by simp [e1], by simp [e5], by simp, rfl, by simp, by simp⟩
  · obtain rfl : i = sets.length := by omega
    rw [List.take_length] at ho
    have hrf := tw_refs objs (withR row sets) objs.length
    have hfl : (flatV ceV ((withR row sets).map (tw objs))).length = row.length * 3 := by rw [flatV_len ceV_len, List.length_map, withR_len]
    simp -implicitDefEqProofs (disch := omega) [e1, e5, e6, ht, ho, hlo, un, hrf, hfl])
def rappV (objs : List AO) (cols : List Co) (K : Int) (row : List Ce) (sets : List Se) : V := if appE objs cols K row sets = 0 then .lst .frozen (flatV ceV ((withR row sets).map (tw objs))) row.length else .nils
noncomputable def k_rApply : Ab.Spec := con3 some some some fun s w u objs => match schD objs s, rowR objs w, setsR objs u with
  | some (cols, K), some row, some sets => bnd (row.length * 40) 140737488355328 (bnd sets.length 140737488355328 (some (.tup [rappV objs cols K row sets, .int .i64 (appE objs cols K row sets)], none)))
  | _, _, _ => none
noncomputable def T_rApply : CallF := withF T_With 27 k_rApply
theorem T_rApply_ok : CallOk Tryd.prog T_rApply := con_of (A := annOf [] [] [] false []) fit T_With_ok (fn := Tryd.f27) (by kernel_rfl) (by kernel_rfl) (by
  intro args objs r h0
  have c_rRow : ∀ a o, T_With 17 a o = k_rRow a o := fun _ _ => rfl
  have c_rSets : ∀ a o, T_With 21 a o = k_rSets a o := fun _ _ => rfl
  have c_With : ∀ a o, T_With 62 a o = k_With a o := fun _ _ => rfl
  obtain ⟨s, w, u, _, _, _, rfl, hs, hw, hu, hR⟩ := con3_inv h0
  cases hs; cases hw; cases hu
  split at hR
  case h_2 => cases hR
  rename_i cols K row sets hsc hr hu
  obtain ⟨hl4, hR⟩ := bnd_inv hR
  obtain ⟨hul, hR⟩ := bnd_inv hR
  cases hR
  obtain ⟨v, rfl, hv, vd, vo, vf, vc, vn, vi, hc, hl⟩ := schF hsc
  obtain ⟨hw, wd, wn, wi, wk⟩ := rowF hr
  obtain ⟨hu1, ud, un, ui, uk⟩ := setsF hu
  have hrk := (rowR_inv hr).2
  obtain ⟨O0, hO0⟩ : ∃ O, O = objs ++ [.cells [v, .int .i64 K] 0] := ⟨_, rfl⟩
  have hold0 : Old objs O0 := by rw [hO0]; exact Old.ext _ _
  have hs2 := schD_old hsc hold0
  have hr2 := rowR_old hr hold0
  have hu2 := setsR_old hu hold0
  have er := rowE_old (cols := cols) (K := K) wk hold0
  have es := setsE_old (cols := cols) (K := K) uk hold0
  refine .go _ rfl rfl ?_
  by_cases hz : rowE objs cols K row = 0
  case neg =>
    have hE : appE objs cols K row sets = rowE objs cols K row := if_neg hz
    have hV : rappV objs cols K row sets = .nils := if_neg (by rw [hE]; exact hz)
    rw [hE, hV]
    obtain ⟨E, hEE⟩ : ∃ E, E = rowE objs cols K row := ⟨_, rfl⟩
    rw [← hEE] at hz er
    rw [← hEE]
    have hz2 : (E != 0) = true := by simpa using hz
    rw [hO0] at hs2 hr2 er
    simp -implicitDefEqProofs (disch := omega) [vd, wd, c_rRow, k_rRow, hs2, hr2, er, hz, hz2]
  have hE0 : appE objs cols K row sets = setsE objs cols K sets := if_pos hz
  rw [hz, hO0] at er
  by_cases hy : setsE objs cols K sets = 0
  case neg =>
    have hV : rappV objs cols K row sets = .nils := if_neg (by rw [hE0]; exact hy)
    rw [hE0, hV]
    obtain ⟨E, hEE⟩ : ∃ E, E = setsE objs cols K sets := ⟨_, rfl⟩
    rw [← hEE] at hy es
    rw [← hEE]
    have hz2 : (E != 0) = true := by simpa using hy
    rw [hO0] at hs2 hr2 hu2 es
    simp -implicitDefEqProofs (disch := omega) [vd, wd, ud, c_rRow, k_rRow, hs2, hr2, er, c_rSets, k_rSets, hu2, hul, es, hy, hz2]
  rw [hy] at hE0
  have hV : rappV objs cols K row sets = .lst .frozen (flatV ceV ((withR row sets).map (tw objs))) row.length := if_pos hE0
  rw [hE0, hV]
  rw [hy, hO0] at es
  have hlen := (row_len hz).2.1
  have hrg : rangeS row.length sets = true := by
    unfold rangeS
    rw [List.all_eq_true]
    intro x hx
    obtain ⟨j, hj, rfl⟩ := List.getElem_of_mem hx
    rw [← nth_lt hj, hlen]
    exact decide_eq_true (set_range hy hj)
  have hWk : ∀ x ∈ withR row sets, ceOk objs x = true := fun x hx => by
    rcases withR_mem x hx with h | ⟨s, hs, rfl⟩
    · exact hrk x h
    · exact (seOk_inv ((setsR_inv hu).2 s hs)).2
  have hmt : (withR row sets).map (tw O0) = (withR row sets).map (tw objs) := List.map_congr_left fun x hx => by unfold tw; rw [(ce_old (hWk x hx) hold0).2]
  have hrf := tw_refs objs (withR row sets) objs.length
  rw [hO0] at hs2 hr2 hu2 hmt
  simp -implicitDefEqProofs (disch := omega) [vd, wd, ud, c_rRow, k_rRow, hs2, hr2, er, c_rSets, k_rSets, hu2, hul, es, c_With, k_With, hrg, hmt, hrf])
/-! some columns -/
theorem intsF {objs : List AO} {v : V} {l : List Int} (h : ofInts .i64 v = some l) : demote v = v ∧ lenV Tryd.prog 44 v = some (.int .i64 l.length) ∧ (∀ i : Nat, i < l.length → indexV Tryd.prog 44 v (.int .i64 i) = some (.fptr (ints .i64 l) i)) := by
  have w := ofInts_inv h
  refine ⟨w.dem, w.size u44, fun i hi => ?_⟩
  have := w.idx u44 z3 .i64 i (by omega) (by omega)
  rwa [Nat.mul_one, Int.toNat_natCast] at this
def inB (n : Nat) (cs : List Int) : Bool := cs.all fun c => decide (0 ≤ c ∧ c < n)
theorem inB_bad {n : Nat} {cs : List Int} {i : Nat} (h : i < cs.length) (hb : ¬ (0 ≤ nth cs i ∧ nth cs i < n)) : inB n cs = false := by
  unfold inB
  rw [Bool.eq_false_iff]
  intro q
  rw [List.all_eq_true] at q
  exact hb (by simpa using q _ (nth_mem h))
theorem inB_good {n : Nat} {cs : List Int} (h : ∀ i, i < cs.length → 0 ≤ nth cs i ∧ nth cs i < n) : inB n cs = true := by
  unfold inB
  rw [List.all_eq_true]
  intro c hc
  obtain ⟨j, hj, rfl⟩ := List.getElem_of_mem hc
  have := h j hj
  rw [nth_lt hj] at this
  exact decide_eq_true this
def projE (objs : List AO) (cols : List Co) (K : Int) (row : List Ce) (cs : List Int) : Int := if rowE objs cols K row = 0 then (if inB row.length cs = true then 0 else 61) else rowE objs cols K row
def projR (row : List Ce) (cs : List Int) : List Ce := cs.map fun c => nth row c.toNat
def rprojV (objs : List AO) (cols : List Co) (K : Int) (row : List Ce) (cs : List Int) : V := if projE objs cols K row cs = 0 then .lst .frozen (flatV ceV ((projR row cs).map (tw objs))) cs.length else .nils
def freshV : V → V | .lst _ c n => .lst (.fresh 3 false) c n | v => v
@[simp] theorem freshV_nil : freshV .nils = .nils := rfl
@[simp] theorem freshV_lst {k : LK} {c : List V} {n : Nat} : freshV (.lst k c n) = .lst (.fresh 3 false) c n := rfl
noncomputable def k_rProject : Ab.Spec := con3 some some (ofInts .i64) fun s w cs objs => match schD objs s, rowR objs w with
  | some (cols, K), some row => bnd (cs.length * 40) 140737488355328 (some (.tup [freshV (rprojV objs cols K row cs), .int .i64 (projE objs cols K row cs)], none))
  | _, _ => none
noncomputable def T_rProject : CallF := withF T_rApply 33 k_rProject
theorem T_rProject_ok : CallOk Tryd.prog T_rProject := con_of (A := annOf [17] [] [] false []) fit T_rApply_ok (fn := Tryd.f33) (by kernel_rfl) (by kernel_rfl) (by
  intro args objs r h0
  have c_rRow : ∀ a o, T_rApply 17 a o = k_rRow a o := fun _ _ => rfl
  have c_Twin : ∀ a o, T_rApply 59 a o = k_Twin a o := fun _ _ => rfl
  obtain ⟨s, w, y, _, _, cs, rfl, hs, hw, hy, hR⟩ := con3_inv h0
  cases hs; cases hw
  split at hR
  case h_2 => cases hR
  rename_i cols K row hsc hr
  obtain ⟨hl4, hR⟩ := bnd_inv hR
  cases hR
  obtain ⟨v, rfl, hv, vd, vo, vf, vc, vn, vi, hc, hl⟩ := schF hsc
  obtain ⟨hw, wd, wn, wi, wk⟩ := rowF hr
  obtain ⟨yd, yn, yi⟩ := intsF (objs := objs) hy
  obtain ⟨O0, hO0⟩ : ∃ O, O = objs ++ [.cells [v, .int .i64 K] 0] := ⟨_, rfl⟩
  have hold0 : Old objs O0 := by rw [hO0]; exact Old.ext _ _
  have hs2 := schD_old hsc hold0
  have hr2 := rowR_old hr hold0
  have er := rowE_old (cols := cols) (K := K) wk hold0
  rw [hO0] at hs2 hr2 er
  refine .go _ rfl rfl ?_
  by_cases hz : rowE objs cols K row = 0
  case neg =>
    have hE : projE objs cols K row cs = rowE objs cols K row := if_neg hz
    have hV : rprojV objs cols K row cs = .nils := if_neg (by rw [hE]; exact hz)
    rw [hE, hV]
    obtain ⟨E, hEE⟩ : ∃ E, E = rowE objs cols K row := ⟨_, rfl⟩
    rw [← hEE] at hz er
    rw [← hEE]
    have hz2 : (E != 0) = true := by simpa using hz
    simp -implicitDefEqProofs (disch := omega) [vd, wd, c_rRow, k_rRow, hs2, hr2, er, hz, hz2]
  have hE0 : projE objs cols K row cs = if inB row.length cs = true then 0 else 61 := if_pos hz
  rw [hz] at er
  simp -implicitDefEqProofs (disch := omega) [vd, wd, c_rRow, k_rRow, hs2, hr2, er, clit0]
  rw [← hO0]
  obtain ⟨I, hI⟩ : ∃ I : Nat → St → Prop, I = (fun (i : Nat) (z : St) => z.env 1 = w ∧ z.env 2 = y ∧ z.env 9 = .lst (.tok 0 3) (flatV ceV (((projR row cs).map (tw objs)).take i)) i ∧ z.env 10 = .int .i64 i ∧ z.toks = [i * 3] ∧ z.low = objs.length ∧ z.objs = O0 ∧ ∀ j, j < i → 0 ≤ nth cs j ∧ nth cs j < row.length) := ⟨_, rfl⟩
  refine .up cs.length I (by rw [hI]; exact ⟨by simp, by simp, by simp [flatV], by simp, by simp, rfl, rfl, fun j hj => absurd hj (by omega)⟩) ?_
  intro i z hi hz2
  rw [hI] at hz2
  obtain ⟨e1, e2, e9, e10, ht, hlo, ho, hpre⟩ := hz2
  have hml : ((projR row cs).map (tw objs)).length = cs.length := by simp [projR]
  have hfl : (flatV ceV (((projR row cs).map (tw objs)).take i)).length = i * 3 := by rw [flatV_len ceV_len, List.length_take, hml]; omega
  rcases Nat.lt_or_ge i cs.length with h | h
  case inr =>
    obtain rfl : i = cs.length := by omega
    rw [List.take_of_length_le (by omega)] at e9 hfl
    have hg : inB row.length cs = true := inB_good hpre
    rw [if_pos hg] at hE0
    have hV : rprojV objs cols K row cs = .lst .frozen (flatV ceV ((projR row cs).map (tw objs))) cs.length := if_pos hE0
    rw [hE0, hV]
    have hrf := tw_refs objs (projR row cs) objs.length
    simp -implicitDefEqProofs (disch := omega) [e1, e2, e9, e10, ht, ho, hlo, yn, hfl, hrf]
  have ix := yi i h
  have e0 := of_get (ints_nth (k := .i64) h)
  have e0' := ints_nth (k := .i64) h
  by_cases hcr : 0 ≤ nth cs i ∧ nth cs i < row.length
  case neg =>
    have hb := inB_bad h hcr
    rw [hb] at hE0
    have hV : rprojV objs cols K row cs = .nils := if_neg (by rw [hE0]; simp)
    have hE1 : projE objs cols K row cs = 61 := by rw [hE0]; rfl
    rw [hE1, hV]
    by_cases h1 : nth cs i < 0
    · simp -implicitDefEqProofs (disch := omega) [e1, e2, e9, e10, ht, ho, hlo, yn, h, ix, e0, e0', h1]
    · have h2 : (row.length : Int) ≤ nth cs i := by omega
      simp -implicitDefEqProofs (disch := omega) [e1, e2, e9, e10, ht, ho, hlo, yn, wn, h, ix, e0, e0', h1, h2]
  obtain ⟨c0, c1⟩ := hcr
  obtain ⟨m, hm⟩ := Int.eq_ofNat_of_zero_le c0
  rw [hm] at e0 e0' c1
  have hmr : m < row.length := by omega
  have jx := wi m hmr
  obtain ⟨g1, -⟩ := row_at (hw.old hold0) hmr
  obtain ⟨k1, k2, k3, k4⟩ := ceOk_inv (ce_old (wk m hmr) hold0).1
  have hbb := (ce_old (wk m hmr) hold0).2
  rw [hbb] at k2 k3 k4
  have hs := take_nth (l := (projR row cs).map (tw objs)) (i := i) (by omega)
  have hpn : nth ((projR row cs).map (tw objs)) i = tw objs (nth row m) := by
    unfold projR
    rw [List.map_map, nth_map h]
    show tw objs (nth row (nth cs i).toNat) = _
    rw [hm, Int.toNat_natCast]
  rw [hpn] at hs
  have hs3 : flatV ceV (((projR row cs).map (tw objs)).take i) ++ ceV (tw objs (nth row m)) = flatV ceV (((projR row cs).map (tw objs)).take (i + 1)) := by rw [flatV_snoc, ← hs]
  obtain ⟨x, hxx⟩ : ∃ x, x = nth row m := ⟨_, rfl⟩
  rw [← hxx] at g1 k1 k2 k3 k4 hs3
  obtain ⟨B, hB⟩ : ∃ B, B = x.b objs := ⟨_, rfl⟩
  have htw : ceV (tw objs x) = [.bool x.n, .int .i64 x.i, .lst .frozen (ints .u8 B) B.length] := by rw [hB]; rfl
  rw [htw] at hs3
  rw [← hB] at k2 k3 k4
  obtain ⟨xn, xi, xv⟩ := x
  simp only at k1 k2 k3 k4 hs3 g1
  obtain ⟨a1, a2, a3, a4⟩ := one_ofR k2
  have hm3 : (i * 3 + 3) = (i + 1) * 3 := by omega
  have h1 : ¬ (m : Int) < 0 := by omega
  have h2 : ¬ row.length ≤ m := by omega
  have hgood : ∀ j, j < i + 1 → 0 ≤ nth cs j ∧ nth cs j < row.length := fun j hj => by
    rcases Nat.lt_or_ge j i with q | q
    · exact hpre j q
    · obtain rfl : j = i := by omega
      rw [hm]; omega
  simp -implicitDefEqProofs (disch := omega) [e1, e2, e9, e10, ht, ho, hlo, yn, wn, h, ix, e0, e0', h1, h2, hmr, jx, g1, ceV, a1, a2, a3, a4, c_Twin, k_Twin, k2, k4, clit1, hfl, hs3, hm3, wrap_small]
  rw [hI]
  exact ⟨by simp [e1], by simp [e2], by simp, by simp, rfl, rfl, rfl, hgood⟩)

end Go.Proofs.YtnbgmclbbkfhhaaDoor.B
set_option maxRecDepth 20000
set_option maxHeartbeats 1000000
namespace Go.Proofs.YtnbgmclbbkfhhaaDoor.B
open Go Go.Ab
/-- Rows that grow, each text in an object of its own. -/
structure PartL (objs O : List AO) (W R : List Ce) : Prop where
  le : R.length ≤ W.length
  done : ∀ j, j < R.length → (nth R j).n = (nth W j).n ∧ (nth R j).i = (nth W j).i ∧ ceOk objs (nth W j) = true ∧ rowH O (nth R j).v ((nth W j).b objs) ∧ ∀ k, idOf (nth R j).v = some k → objs.length ≤ k
  apart : ∀ j k, j < k → k < R.length → ∀ x, idOf (nth R j).v = some x → idOf (nth R k).v ≠ some x
theorem PartL.t {objs O : List AO} {W R : List Ce} (h : PartL objs O W R) (hl : R.length = W.length) : R.map (Ce.t O) = W.map (Ce.t objs) := by
  refine ext_nth (by simp [hl]) fun j hj => ?_
  rw [List.length_map] at hj
  rw [nth_map hj, nth_map (by omega)]
  obtain ⟨d1, d2, d0, d3, -⟩ := h.done j (by omega)
  unfold Ce.t
  rw [d1, d2]
  have := d3.bytes
  unfold Ce.b at this ⊢
  rw [this]; rfl
theorem PartL.ok {objs O : List AO} {W R : List Ce} (h : PartL objs O W R) : ∀ x ∈ R, ceOk O x = true := fun x hx => by
  obtain ⟨j, hj, rfl⟩ := List.getElem_of_mem hx
  rw [← nth_lt hj]
  obtain ⟨d1, d2, d0, d3, -⟩ := h.done j hj
  obtain ⟨k1, k2, k3, k4⟩ := ceOk_inv d0
  exact (ceOk_of (by rw [d2]; exact k1) d3.bytes k3 k4).1
theorem PartL.held {objs O : List AO} {W R : List Ce} (h : PartL objs O W R) (hl : R.length = W.length) : Held O (R.map (·.v)) ((W.map (Ce.t objs)).map fun p => p.2.2) := by
  rw [List.map_map]
  refine ⟨by simp [hl], fun j hj => ?_, fun j k v1 w1 y hjk h1 h2 e1 => ?_⟩
  · rw [List.length_map] at hj
    obtain ⟨-, -, -, d3, -⟩ := h.done j (by omega)
    exact ⟨(nth R j).v, by rw [List.getElem?_map, get_nth (by omega)]; rfl, by rw [nth_map hj]; exact d3⟩
  · have hk : k < R.length := by
      rcases Nat.lt_or_ge k R.length with q | q
      · exact q
      · rw [List.getElem?_eq_none (by simpa using q)] at h2; cases h2
    rw [List.getElem?_map, get_nth (by omega)] at h1 h2
    cases h1; cases h2
    exact h.apart j k hjk (by omega) y e1
theorem PartL.ids {objs O : List AO} {W R : List Ce} (h : PartL objs O W R) : ∀ v ∈ R.map (·.v), ∀ id, idOf v = some id → objs.length ≤ id := by
  intro v1 hv1 id e
  obtain ⟨x, hx, rfl⟩ := List.mem_map.1 hv1
  obtain ⟨j, hj, rfl⟩ := List.getElem_of_mem hx
  rw [← nth_lt hj] at e
  exact (h.done j hj).2.2.2.2 id e
theorem PartL.nil {objs O : List AO} {W : List Ce} : PartL objs O W [] := ⟨Nat.zero_le _, fun j hj => absurd hj (by simp), fun j k _ hk => absurd hk (by simp)⟩
theorem PartL.fresh {objs O : List AO} {W R : List Ce} (h : PartL objs O W R) (hl : R.length = W.length) {n : Nat} (hn : n = R.length) : Fresh objs O (.lst .frozen (flatV ceV R) n) (W.map (Ce.t objs)) := by
  subst hn
  exact ⟨R, recR_lst ceV_len fun x hx => ceD_ok.2 (h.ok x hx), h.t hl, h.held hl, h.ids⟩
/-- One more, in an object behind all. -/
theorem PartL.snoc {objs O O' : List AO} {W R : List Ce} (h : PartL objs O W R) (ho : Old O O') (hoo : Old objs O) {x y : Ce} (hW : W[R.length]? = some y) (hk : ceOk objs y = true) (h1 : x.n = y.n) (h2 : x.i = y.i) (h3 : rowH O' x.v (y.b objs)) (h4 : ∀ k, idOf x.v = some k → O.length ≤ k) : PartL objs O' W (R ++ [x]) := by
  have hlt : R.length < W.length := by
    rcases Nat.lt_or_ge R.length W.length with q | q
    · exact q
    · rw [List.getElem?_eq_none q] at hW; cases hW
  have hy : nth W R.length = y := by unfold nth; rw [List.getD_eq_getElem?_getD, hW]; rfl
  have e1 : ∀ j, j < R.length → nth (R ++ [x]) j = nth R j := fun j hj => nth_app_l hj
  have e2 : nth (R ++ [x]) R.length = x := by rw [nth_app_r (Nat.le_refl _), Nat.sub_self]; rfl
  refine ⟨by simp; omega, fun j hj => ?_, fun j k hjk hk2 z => ?_⟩
  · rw [List.length_append, List.length_singleton] at hj
    rcases Nat.lt_or_ge j R.length with q | q
    · rw [e1 j q]
      obtain ⟨d1, d2, d0, d3, d4⟩ := h.done j q
      exact ⟨d1, d2, d0, rowH_old d3 ho, d4⟩
    · obtain rfl : j = R.length := by omega
      rw [e2, hy]
      exact ⟨h1, h2, hk, h3, fun k hk => by have := h4 k hk; have := hoo.1; omega⟩
  · rw [List.length_append, List.length_singleton] at hk2
    rcases Nat.lt_or_ge k R.length with q | q
    · rw [e1 j (by omega), e1 k q]; exact h.apart j k hjk q z
    · obtain rfl : k = R.length := by omega
      rw [e1 j hjk, e2]
      intro f1 f2
      have := h4 z f2
      obtain ⟨-, -, -, d3, -⟩ := h.done j hjk
      rcases d3 with ⟨d3, -⟩ | ⟨id, ver, d3, d4⟩
      · rw [d3] at f1; cases f1
      · rw [d3] at f1; cases f1
        have := getObj_lt d4
        omega
def ProjP (objs : List AO) (cols : List Co) (K : Int) (row : List Ce) (cs : List Int) (r : Rs) : Prop :=
  ∃ xv objs', r = (.tup [xv, .int .i64 (projE objs cols K row cs)], some (objs', objs.length)) ∧ Old objs objs' ∧ demote xv = xv ∧ ntup xv = some xv ∧ (projE objs cols K row cs ≠ 0 → xv = .nils) ∧ (projE objs cols K row cs = 0 → Fresh objs objs' xv ((projR row cs).map (Ce.t objs)))
def p_ProjectK : List V → List AO → Rs → Prop := fun args objs r => match args with | [s, w, y] => ∀ cols K row cs, schD objs s = some (cols, K) → rowR objs w = some row → ofInts .i64 y = some cs → ProjP objs cols K row cs r | _ => False
noncomputable def k_ProjectK : Ab.Spec := relF (fun a o r => p_ProjectK a o r ∧ EndsW Tryd.prog (annOf [18] [] [] true [61]) T_rProject 32 Tryd.f32 a o r)
noncomputable def T_ProjectK : CallF := withF T_rProject 32 k_ProjectK
theorem T_ProjectK_ok : CallOk Tryd.prog T_ProjectK := con_ofW (A := annOf [18] [] [] true [61]) fit T_rProject_ok (fn := Tryd.f32) (by kernel_rfl) (by kernel_rfl) (fun args objs r h0 => (relF_inv h0).2)
theorem s_ProjectK  {objs : List AO} {s w y : V} {cols : List Co} {K : Int} {row : List Ce} {cs : List Int} (hsc : schD objs s = some (cols, K)) (hr : rowR objs w = some row) (hy : ofInts .i64 y = some cs) (hcl : cs.length * 40 < 140737488355328) : ∃ r, k_ProjectK [s, w, y] objs = some r ∧ p_ProjectK [s, w, y] objs r := by
  have c_Row : ∀ a o, T_rProject 16 a o = k_Row a o := fun _ _ => rfl
  have c_cloneK : ∀ a o, T_rProject 61 a o = k_cloneK a o := fun _ _ => rfl
  refine rel_goT _ rfl rfl ?_
  obtain ⟨v, rfl, hv, vd, vo, vf, vc, vn, vi, hc, hl⟩ := schF hsc
  obtain ⟨hw, wd, wn, wi, wk⟩ := rowF hr
  obtain ⟨yd, yn, yi⟩ := intsF (objs := objs) hy
  obtain ⟨O0, hO0⟩ : ∃ O, O = objs ++ [.cells [v, .int .i64 K] 0] := ⟨_, rfl⟩
  have hold0 : Old objs O0 := by rw [hO0]; exact Old.ext _ _
  have hs2 := schD_old hsc hold0
  have hr2 := rowR_old hr hold0
  have er := rowE_old (cols := cols) (K := K) wk hold0
  have goal : ∀ r, ProjP objs cols K row cs r → (match ([.agg [v, .int .i64 K], w, y] : List V) with | [s, w, y] => ∀ cols K row cs, schD objs s = some (cols, K) → rowR objs w = some row → ofInts .i64 y = some cs → ProjP objs cols K row cs r | _ => False) := fun r h cols' K' row' cs' h1 h2 h3 => by
    rw [hsc] at h1; rw [hr] at h2; rw [hy] at h3
    cases h1; cases h2; cases h3
    exact h
  rw [hO0] at hs2 hr2 er
  by_cases hz : rowE objs cols K row = 0
  case neg =>
    have hE : projE objs cols K row cs = rowE objs cols K row := if_neg hz
    obtain ⟨E, hEE⟩ : ∃ E, E = rowE objs cols K row := ⟨_, rfl⟩
    rw [← hEE] at hz hE er
    have hz2 : (E != 0) = true := by simpa using hz
    simp -implicitDefEqProofs (disch := omega) [vd, wd, c_Row, k_Row, hs2, hr2, er, hz, hz2]
    exact goal _ ⟨.nils, _, by rw [hE], Old.ext _ _, rfl, rfl, fun _ => rfl, fun q => absurd (hE ▸ q) hz⟩
  have hE0 : projE objs cols K row cs = if inB row.length cs = true then 0 else 61 := if_pos hz
  rw [hz] at er
  simp -implicitDefEqProofs (disch := omega) [vd, wd, c_Row, k_Row, hs2, hr2, er, clit0, yn]
  obtain ⟨I, hI⟩ : ∃ I : Nat → St → Prop, I = (fun (i : Nat) (z : St) => z.env 1 = w ∧ z.env 19 = y ∧ z.env 20 = .int .i64 cs.length ∧ z.env 21 = .int .i64 i ∧ z.toks = [i * 3] ∧ z.low = objs.length ∧ Old objs z.objs ∧ (∀ j, j < i → 0 ≤ nth cs j ∧ nth cs j < row.length) ∧ ∃ R, z.env 9 = .lst (.tok 0 3) (flatV ceV R) i ∧ R.length = i ∧ PartL objs z.objs (projR row cs) R) := ⟨_, rfl⟩
  refine .up cs.length I (by rw [hI]; exact ⟨by simp, by simp, by simp, by simp, by simp, rfl, Old.ext _ _, fun j hj => absurd hj (by omega), [], by simp [flatV], rfl, .nil⟩) ?_
  intro i z hi hz2
  rw [hI] at hz2
  obtain ⟨e1, e19, e20, e21, ht, hlo, hold, hpre, R, e9, hRl, hP⟩ := hz2
  obtain ⟨O, ho⟩ : ∃ O, O = z.objs := ⟨_, rfl⟩
  rw [← ho] at hold hP
  have ho := ho.symm
  have hfl : (flatV ceV R).length = i * 3 := by rw [flatV_len ceV_len, hRl]
  have hpl : (projR row cs).length = cs.length := by simp [projR]
  rcases Nat.lt_or_ge i cs.length with h | h
  case inr =>
    obtain rfl : i = cs.length := by omega
    have hg : inB row.length cs = true := inB_good hpre
    rw [if_pos hg] at hE0
    simp -implicitDefEqProofs (disch := omega) [e1, e19, e20, e21, e9, ht, ho, hlo]
    exact goal _ ⟨_, _, by rw [hE0], hold, rfl, rfl, fun q => absurd hE0 q, fun _ => hP.fresh (by omega) (by omega)⟩
  have ix := yi i h
  have e0 := of_get (ints_nth (k := .i64) h)
  have e0' := ints_nth (k := .i64) h
  by_cases hcr : 0 ≤ nth cs i ∧ nth cs i < row.length
  case neg =>
    have hb := inB_bad h hcr
    rw [hb] at hE0
    have hE1 : projE objs cols K row cs = 61 := by rw [hE0]; rfl
    have fin := goal (.tup [.nils, .int .i64 61], some (O, objs.length)) ⟨.nils, _, by rw [hE1], hold, rfl, rfl, fun _ => rfl, fun q => by rw [hE1] at q; cases q⟩
    by_cases h1 : nth cs i < 0
    · simp -implicitDefEqProofs (disch := omega) [e1, e19, e20, e21, e9, ht, ho, hlo, h, ix, e0, e0', h1]
      exact fin
    · have h2 : (row.length : Int) ≤ nth cs i := by omega
      simp -implicitDefEqProofs (disch := omega) [e1, e19, e20, e21, e9, ht, ho, hlo, wn, h, ix, e0, e0', h1, h2]
      exact fin
  have hcr' := hcr
  obtain ⟨c0, c1⟩ := hcr
  obtain ⟨m, hm⟩ := Int.eq_ofNat_of_zero_le c0
  rw [hm] at e0 e0' c1
  have hmr : m < row.length := by omega
  have jx := wi m hmr
  obtain ⟨g1, -⟩ := row_at (hw.old hold) hmr
  have hwm := wk m hmr
  obtain ⟨k1, k2, k3, k4⟩ := ceOk_inv hwm
  have hWat : (projR row cs)[R.length]? = some (nth row m) := by
    rw [hRl]
    unfold projR
    rw [List.getElem?_map, get_nth h]
    show some (nth row (nth cs i).toNat) = _
    rw [hm, Int.toNat_natCast]
  obtain ⟨x, hxx⟩ : ∃ x, x = nth row m := ⟨_, rfl⟩
  rw [← hxx] at g1 hwm k1 k2 k3 k4 hWat
  obtain ⟨B, hB⟩ : ∃ B, B = x.b objs := ⟨_, rfl⟩
  rw [← hB] at k2 k3 k4
  obtain ⟨xn, xi, xv⟩ := x
  simp only at k1 k2 g1
  obtain ⟨a1, a2, a3, a4⟩ := one_ofR k2
  have ha2 := ofIntsR_old k2 hold
  obtain ⟨q1, q2⟩ := clone_row (n := xn) (i := xi) ha2
  obtain ⟨N, hN⟩ : ∃ N, N = cloneB O.length xv B := ⟨_, rfl⟩
  have kk : k_cloneK [.agg [.bool xn, .int .i64 xi, xv]] O = some (.agg [.bool xn, .int .i64 xi, N], some (O ++ cloneO O.length xn xi xv B, O.length)) := by
    rw [hN]; simp (disch := omega) [k_cloneK, ha2]
  obtain ⟨O3, hO3⟩ : ∃ O3, O3 = O ++ cloneO O.length xn xi xv B := ⟨_, rfl⟩
  rw [← hO3] at kk q1
  rw [← hN] at q1 q2
  have hN1 : demote N = N ∧ oneCell N = true ∧ isDef N = true ∧ cellsOf N = [N] := by
    rw [hN]; unfold cloneB; split <;> exact ⟨rfl, rfl, rfl, rfl⟩
  obtain ⟨n1, n2, n3, n4⟩ := hN1
  have hO03 : Old O O3 := by rw [hO3]; exact Old.ext _ _
  have hold3 : Old objs O3 := hold.trans hO03
  have hOn : ¬ O.length < objs.length := by have := hold.1; omega
  have hs3 : flatV ceV R ++ [.bool xn, .int .i64 xi, N] = flatV ceV (R ++ [⟨xn, xi, N⟩]) := by rw [← flatV_snoc]; rfl
  have hm3 : (i * 3 + 3) = (i + 1) * 3 := by omega
  have h1 : ¬ (m : Int) < 0 := by omega
  have h2 : ¬ row.length ≤ m := by omega
  have hgood : ∀ j, j < i + 1 → 0 ≤ nth cs j ∧ nth cs j < row.length := fun j hj => by
    rcases Nat.lt_or_ge j i with q | q
    · exact hpre j q
    · obtain rfl : j = i := by omega
      exact hcr'
  have hP2 := hP.snoc hO03 hold (x := ⟨xn, xi, N⟩) hWat hwm rfl rfl (by rw [← hB]; exact q1) (fun k hk => by have := q2 k hk; omega)
  simp -implicitDefEqProofs (disch := omega) [e1, e19, e20, e21, e9, ht, ho, hlo, wn, h, ix, e0, e0', h1, h2, hmr, jx, g1, ceV, a1, a2, a3, a4, c_cloneK, kk, n1, n2, n3, n4, clit1, hfl, hs3, hm3, hOn, wrap_small]
  rw [hI]
  exact ⟨by simp [e1], by simp [e19], by simp [e20], by simp, rfl, rfl, hold3, hgood, _, by simp, by simp [hRl], hP2⟩

end Go.Proofs.YtnbgmclbbkfhhaaDoor.B
set_option maxRecDepth 20000
set_option maxHeartbeats 1000000
namespace Go.Proofs.YtnbgmclbbkfhhaaDoor.B
open Go Go.Ab
theorem old_nil (O : List AO) : Old [] O := Old.ext [] O
theorem tw_of {objs O : List AO} {x : Ce} (h : ceOk objs x = true) (ho : Old objs O) : tw O x = tw objs x := by unfold tw; rw [(ce_old h ho).2]
theorem twm_of {objs O : List AO} {row : List Ce} (h : ∀ x ∈ row, ceOk objs x = true) (ho : Old objs O) : row.map (tw O) = row.map (tw objs) := List.map_congr_left fun x hx => tw_of (h x hx) ho
theorem twSm_of {objs O : List AO} {l : List Se} (h : ∀ x ∈ l, seOk objs x = true) (ho : Old objs O) : l.map (twS O) = l.map (twS objs) := List.map_congr_left fun x hx => by unfold twS; rw [tw_of (seOk_inv (h x hx)).2 ho]
theorem chkC_tw {objs O : List AO} (c : Co) {x : Ce} (h : ceOk objs x = true) : chkC O c (tw objs x) = chkC objs c x := by unfold chkC; rw [(tw_ok h).2]; rfl
theorem cellsN_tw {objs O : List AO} {cols : List Co} {n : Nat} {row : List Ce} (h : ∀ x ∈ row, ceOk objs x = true) : cellsN O cols n (row.map (tw objs)) = cellsN objs cols n row := by
  unfold cellsN
  rw [List.length_map]
  split
  · rename_i hl
    exact firstE_congr fun j _ hj => by
      show chkC O _ (nth (row.map (tw objs)) j) = _
      rw [nth_map (by omega)]
      exact chkC_tw _ (h _ (nth_mem (by omega)))
  · rfl
theorem rowE_tw {objs O : List AO} {cols : List Co} {K : Int} {row : List Ce} (h : ∀ x ∈ row, ceOk objs x = true) : rowE O cols K (row.map (tw objs)) = rowE objs cols K row := by unfold rowE; rw [cellsN_tw h]
theorem keyE_tw {objs O : List AO} {cols : List Co} {K : Int} {row : List Ce} (h : ∀ x ∈ row, ceOk objs x = true) : keyE O cols K (row.map (tw objs)) = keyE objs cols K row := by unfold keyE; rw [cellsN_tw h]
theorem setsE_tw {objs O : List AO} {cols : List Co} {K : Int} {l : List Se} (h : ∀ x ∈ l, seOk objs x = true) : setsE O cols K (l.map (twS objs)) = setsE objs cols K l := by
  unfold setsE
  rw [List.length_map, firstE_congr (g := setE objs cols K l)]
  intro j _ hj
  have e : ∀ i, i < l.length → (nth (l.map (twS objs)) i).c = (nth l i).c ∧ (nth (l.map (twS objs)) i).x = tw objs (nth l i).x := fun i hi => by rw [nth_map hi]; exact ⟨rfl, rfl⟩
  obtain ⟨e1, e2⟩ := e j (by omega)
  have hm : misP cols K (l.map (twS objs)) j ↔ misP cols K l j := by
    unfold misP
    rw [e1]
    rcases Nat.eq_zero_or_pos j with z | z
    · simp [z]
    · rw [(e (j - 1) (by omega)).1]
  unfold setE
  rw [e1, e2, chkC_tw _ (seOk_inv (h _ (nth_mem (by omega)))).2]
  simp only [hm]
theorem opE_tw {objs O : List AO} {cols : List Co} {K k : Int} {row : List Ce} {l : List Se} (h : ∀ x ∈ row, ceOk objs x = true) (hs : ∀ x ∈ l, seOk objs x = true) : opE O cols K k (row.map (tw objs)) (l.map (twS objs)) = opE objs cols K k row l := by
  unfold opE; rw [rowE_tw h, keyE_tw h, setsE_tw hs, List.length_map]
theorem opE_old {objs O : List AO} {cols : List Co} {K k : Int} {row : List Ce} {l : List Se} (h : ∀ i, i < row.length → ceOk objs (nth row i) = true) (hs : ∀ i, i < l.length → seOk objs (nth l i) = true) (ho : Old objs O) : opE O cols K k row l = opE objs cols K k row l := by
  unfold opE; rw [rowE_old h ho, keyE_old h ho, setsE_old hs ho]
theorem opD_of {objs : List AO} {k : Int} {r u : V} {row : List Ce} {l : List Se} (h1 : rowR objs r = some row) (h2 : setsR objs u = some l) (h3 : l.length < 140737488355328) (h4 : row.length < 140737488355328) : opD objs (.agg [.int .i64 k, r, u]) = some (k, row, l) := by
  unfold opD; simp only [h1, h2]; rw [if_pos ⟨h3, h4⟩]
theorem appE_tw {objs O : List AO} {cols : List Co} {K : Int} {row : List Ce} {l : List Se} (h : ∀ x ∈ row, ceOk objs x = true) (hs : ∀ x ∈ l, seOk objs x = true) : appE O cols K (row.map (tw objs)) (l.map (twS objs)) = appE objs cols K row l := by unfold appE; rw [rowE_tw h, setsE_tw hs]
theorem appE_old {objs O : List AO} {cols : List Co} {K : Int} {row : List Ce} {l : List Se} (h : ∀ i, i < row.length → ceOk objs (nth row i) = true) (hs : ∀ i, i < l.length → seOk objs (nth l i) = true) (ho : Old objs O) : appE O cols K row l = appE objs cols K row l := by unfold appE; rw [rowE_old h ho, setsE_old hs ho]
theorem projE_tw {objs O : List AO} {cols : List Co} {K : Int} {row : List Ce} {cs : List Int} (h : ∀ x ∈ row, ceOk objs x = true) : projE O cols K (row.map (tw objs)) cs = projE objs cols K row cs := by unfold projE; rw [rowE_tw h, List.length_map]
theorem projE_old {objs O : List AO} {cols : List Co} {K : Int} {row : List Ce} {cs : List Int} (h : ∀ i, i < row.length → ceOk objs (nth row i) = true) (ho : Old objs O) : projE O cols K row cs = projE objs cols K row cs := by unfold projE; rw [rowE_old h ho]
theorem chk_200 {k i : Int} {nl n : Bool} {l : List Int} (h : checkR k nl n i l = 0) : l.length ≤ 200 := by
  unfold checkR at h
  split at h
  · cases h
  split at h
  · split at h
    · split at h
      · rename_i h2; rw [h2.2]; simp
      · cases h
    · cases h
  split at h
  · split at h
    · rename_i h2; rw [h2]; simp
    · cases h
  · split at h
    · unfold textR at h
      split at h
      · cases h
      · omega
    · cases h
theorem lens_200 : ∀ {ls : List (List Int)}, (∀ l ∈ ls, l.length ≤ 200) → lens ls ≤ 270 * ls.length
  | [], _ => by simp [lens]
  | a :: ls, h => by
    have h1 := h a (by simp)
    have ih := lens_200 (ls := ls) (fun l hl => h l (by simp [hl]))
    have : lens (a :: ls) = (a.length + 70) + lens ls := by simp [lens]
    rw [this, List.length_cons]; omega
theorem Fresh.nil {objs O : List AO} : Fresh objs O .nils [] := ⟨[], rfl, rfl, ⟨rfl, fun i h => absurd h (by simp), fun i j v w id _ h => by simp at h⟩, by simp⟩
/-- Rows told anew beside rows that are told: alike, and apart. -/
theorem fresh_law {objs O : List AO} {xv wv : V} {want : List (Bool × Int × List Int)} {Wn : List Ce} (hF : Fresh objs O xv want) (hw : ∀ O, rowR O wv = some Wn) (hww : ∀ O, Wn.map (Ce.t O) = want) (h200 : ∀ p ∈ want, p.2.2.length ≤ 200) (hn : want.length ≤ 1048576) :
    ∃ (X : List Ce) (O3 : List AO) (low : Nat), k_AlikeRow [xv, wv] O = some (.bool true, none) ∧ k_Texts [xv] O = some (.lst (.fresh 1 false) (X.map (·.v)) X.length, none) ∧ k_Texts [wv] O = some (.lst (.fresh 1 false) (Wn.map (·.v)) Wn.length, none) ∧
      k_ApartAll [.lst .frozen (X.map (·.v)) X.length, .lst .frozen (Wn.map (·.v)) Wn.length] O = some (.bool true, some (O3, low)) ∧ O3.length = O.length ∧ ∀ id ver, id < objs.length → Ab.getObj O3 id ver = Ab.getObj O id ver := by
  obtain ⟨X, h1, h2, h3, h4⟩ := hF.rows
  have hl1 : X.length = want.length := by have := congrArg List.length h2; simpa using this
  have hl2 : Wn.length = want.length := by have := congrArg List.length (hww O); simpa using this
  have hsum := lens_200 (ls := want.map fun p => p.2.2) (fun l hl => by
    obtain ⟨p, hp, rfl⟩ := List.mem_map.1 hl
    exact h200 p hp)
  rw [List.length_map] at hsum
  obtain ⟨r, k2, O4, low4, rfl, k3⟩ := s_ApartAll (objs := O) (v := .lst .frozen (X.map (·.v)) X.length) (w := .lst .frozen (Wn.map (·.v)) Wn.length) (vs := X.map (·.v)) (ws := Wn.map (·.v)) (ls := want.map fun p => p.2.2)
    (.inl (by rw [List.length_map, hl1])) (.inl (by rw [List.length_map, hl2])) (fun i hi => by
      rw [List.length_map] at hi
      have hiw : i < Wn.length := by omega
      refine ⟨(nth Wn i).v, by rw [List.getElem?_map, get_nth hiw]; rfl, ?_⟩
      have hk := (rowR_inv (hw [])).2 _ (nth_mem hiw)
      have hb := (ceOk_inv hk).2.1
      have e := hww []
      have e2 := nth_map (g := Ce.t []) hiw
      rw [e] at e2
      rw [nth_map (by omega), e2]
      show ofInts .u8 _ = some ((nth Wn i).b [])
      rcases ofIntsR_inv hb with h | ⟨id, ver, off, cs, -, hg, -⟩
      · exact h
      · simp [Ab.getObj] at hg) h3 (by omega)
  obtain ⟨m1, m2, m3⟩ := k3 (X.map (·.v)) _ (.inl (by rw [List.length_map, hl1])) h3
  refine ⟨X, O4, low4, ?_, ?_, ?_, k2, m1, fun id ver hid => m3 id ver fun v hv hq => ?_⟩
  · have he : X.map (Ce.t O) = Wn.map (Ce.t O) := by rw [h2, hww O]
    simp (disch := omega) [k_AlikeRow, h1, hw O, he]
  · simp (disch := omega) [k_Texts, h1]
  · simp (disch := omega) [k_Texts, hw O]
  · have := h4 v hv id hq
    omega
theorem aliveA (O : List AO) : k_aliveA [] O = some (.bool true, none) := anyF_of rfl rfl
theorem projR_tw {objs : List AO} {row : List Ce} {cs : List Int} (h : ∀ i, i < cs.length → 0 ≤ nth cs i ∧ nth cs i < row.length) : projR (row.map (tw objs)) cs = (projR row cs).map (tw objs) := by
  unfold projR
  rw [List.map_map]
  refine List.map_congr_left fun c hc => ?_
  obtain ⟨j, hj, rfl⟩ := List.getElem_of_mem hc
  have := h j hj
  rw [nth_lt hj] at this
  rw [nth_map (by omega)]; rfl
theorem inB_at {n : Nat} {cs : List Int} (h : inB n cs = true) : ∀ i, i < cs.length → 0 ≤ nth cs i ∧ nth cs i < n := fun i hi => by
  unfold inB at h
  rw [List.all_eq_true] at h
  simpa using h _ (nth_mem hi)
noncomputable def k_SchemaApplies : Ab.Spec := con4 some some some (ofInts .i64) fun s w u cs objs => match objs with
  | [] => match schD [] s, rowR [] w, setsR [] u with
    | some _, some row, some sets => bnd (row.length * 40) 140737488355328 (bnd (sets.length * 48) 140737488355328 (bnd cs.length 1048577 (some (.bool true, none))))
    | _, _, _ => none
  | _ => none
noncomputable def T_SchemaApplies : CallF := withF T_ProjectK 4 k_SchemaApplies
theorem T_SchemaApplies_ok : CallOk Tryd.prog T_SchemaApplies := con_of (A := annOf [] [] [] false [26, 32, 29]) fit T_ProjectK_ok (fn := Tryd.f4) (by kernel_rfl) (by kernel_rfl) (by
  intro args objs r h0
  have c_aliveA : ∀ a o, T_ProjectK 9 a o = k_aliveA a o := fun _ _ => rfl
  have c_TwinRow : ∀ a o, T_ProjectK 24 a o = k_TwinRow a o := fun _ _ => rfl
  have c_TwinSets : ∀ a o, T_ProjectK 25 a o = k_TwinSets a o := fun _ _ => rfl
  have c_ApplyK : ∀ a o, T_ProjectK 26 a o = k_ApplyK a o := fun _ _ => rfl
  have c_rApply : ∀ a o, T_ProjectK 27 a o = k_rApply a o := fun _ _ => rfl
  have c_AlikeRow : ∀ a o, T_ProjectK 28 a o = k_AlikeRow a o := fun _ _ => rfl
  have c_Texts : ∀ a o, T_ProjectK 30 a o = k_Texts a o := fun _ _ => rfl
  have c_ApartAll : ∀ a o, T_ProjectK 29 a o = k_ApartAll a o := fun _ _ => rfl
  have c_AlikeSets : ∀ a o, T_ProjectK 31 a o = k_AlikeSets a o := fun _ _ => rfl
  have c_ProjectK : ∀ a o, T_ProjectK 32 a o = k_ProjectK a o := fun _ _ => rfl
  have c_rProject : ∀ a o, T_ProjectK 33 a o = k_rProject a o := fun _ _ => rfl
  obtain ⟨s, w, u, y, _, _, _, cs, rfl, hs, hw, hu, hy, hR⟩ := con4_inv h0
  cases hs; cases hw; cases hu
  split at hR
  case h_2 => cases hR
  split at hR
  case h_2 => cases hR
  rename_i p row sets hsc hr hu
  obtain ⟨cols, K⟩ := p
  obtain ⟨l1, hR⟩ := bnd_inv hR
  obtain ⟨l2, hR⟩ := bnd_inv hR
  obtain ⟨l3, hR⟩ := bnd_inv hR
  cases hR
  obtain ⟨v, rfl, hc, hl, hsh⟩ := schD_inv hsc
  have vd := (colsV hc).dem
  have wd := (rowF hr).2.1
  have ud := (setsF hu).2.1
  obtain ⟨yd, -⟩ := intsF (objs := []) hy
  have rk := (rowR_inv hr).2
  have uk := (setsR_inv hu).2
  have rk' := (rowF hr).2.2.2.2
  have uk' := (setsF hu).2.2.2.2
  have S1 := fun O => schD_old hsc (old_nil O)
  have R1 := fun O => rowR_old hr (old_nil O)
  have U1 := fun O => setsR_old hu (old_nil O)
  obtain ⟨M, hM⟩ : ∃ M, M = V.lst .frozen (flatV ceV (row.map (tw []))) row.length := ⟨_, rfl⟩
  obtain ⟨N, hN⟩ : ∃ N, N = V.lst .frozen (flatV seV (sets.map (twS []))) sets.length := ⟨_, rfl⟩
  have R2 : ∀ O, rowR O M = some (row.map (tw [])) := fun O => by rw [hM]; exact tw_row rk
  have U2 : ∀ O, setsR O N = some (sets.map (twS [])) := fun O => by rw [hN]; exact twS_row uk
  have M1 : ∀ O, row.map (Ce.t O) = row.map (Ce.t []) := fun O => List.map_congr_left fun x hx => Ce.t_old (rk x hx) (old_nil O)
  have M2 : ∀ O, sets.map (Se.t O) = sets.map (Se.t []) := fun O => List.map_congr_left fun x hx => by unfold Se.t; rw [Ce.t_old (seOk_inv (uk x hx)).2 (old_nil O)]
  have M3 := fun O => tm_tw (O := O) rk
  have M4 := fun O => tm_twS (O := O) uk
  have T1 : ∀ O, k_TwinRow [w] O = some (.lst (.fresh 3 true) (flatV ceV (row.map (tw []))) row.length, none) := fun O => by simp (disch := omega) [k_TwinRow, R1 O, twm_of rk (old_nil O)]
  have T2 : ∀ O, k_TwinSets [u] O = some (.lst (.fresh 4 false) (flatV seV (sets.map (twS []))) sets.length, none) := fun O => by simp (disch := omega) [k_TwinSets, U1 O, twSm_of uk (old_nil O)]
  have A1 : ∀ O, k_AlikeRow [M, w] O = some (.bool true, none) := fun O => by simp (disch := omega) [k_AlikeRow, R1 O, R2 O, M1 O, M3 O]
  have A2 : ∀ O, k_AlikeSets [N, u] O = some (.bool true, none) := fun O => by simp (disch := omega) [k_AlikeSets, U1 O, U2 O, M2 O, M4 O]
  have Md : demote M = M := by rw [hM]; rfl
  have Nd : demote N = N := by rw [hN]; rfl
  -- Apply
  obtain ⟨O1, hO1⟩ : ∃ O1, O1 = [AO.cells [v, .int .i64 K] 0] := ⟨_, rfl⟩
  obtain ⟨r, k1, k1p⟩ := s_ApplyK (objs := O1) (S1 O1) (R2 O1) (U2 O1) (by simp; omega) (by rw [hM]; rfl)
  obtain ⟨xv, O2, rfl, hold2, xd, xnt, xbad, xgood⟩ := k1p _ _ _ _ (S1 O1) (R2 O1) (U2 O1)
  rw [appE_tw rk uk] at k1 xbad xgood
  have k1' : ∀ O, k_rApply [.agg [v, .int .i64 K], w, u] O = some (.tup [rappV [] cols K row sets, .int .i64 (appE [] cols K row sets)], none) := fun O => by
    have e : rappV O cols K row sets = rappV [] cols K row sets := by
      unfold rappV
      rw [appE_old rk' uk' (old_nil O)]
      split
      · rw [twm_of (fun x hx => ?_) (old_nil O)]
        rcases withR_mem x hx with h | ⟨s, hs, rfl⟩
        · exact rk x h
        · exact (seOk_inv (uk s hs)).2
      · rfl
    simp (disch := omega) [k_rApply, S1 O, R1 O, U1 O, e, appE_old rk' uk' (old_nil O)]
  obtain ⟨E, hE⟩ : ∃ E, E = appE [] cols K row sets := ⟨_, rfl⟩
  rw [← hE] at k1 k1' xbad xgood
  obtain ⟨WV, hWV⟩ : ∃ W, W = rappV [] cols K row sets := ⟨_, rfl⟩
  rw [← hWV] at k1'
  have hWk : ∀ x ∈ withR row sets, ceOk [] x = true := fun x hx => by
    rcases withR_mem x hx with h | ⟨s, hs, rfl⟩
    · exact rk x h
    · exact (seOk_inv (uk s hs)).2
  obtain ⟨X, O3, low3, Wn, a1, a2, ⟨a3, a4, wvd, wvn⟩, hl3, same3⟩ : ∃ (X : List Ce) (O3 : List AO) (low : Nat) (Wn : List Ce), k_AlikeRow [xv, WV] O2 = some (.bool true, none) ∧ k_Texts [xv] O2 = some (.lst (.fresh 1 false) (X.map (·.v)) X.length, none) ∧ (k_Texts [WV] O2 = some (.lst (.fresh 1 false) (Wn.map (·.v)) Wn.length, none) ∧
      k_ApartAll [.lst .frozen (X.map (·.v)) X.length, .lst .frozen (Wn.map (·.v)) Wn.length] O2 = some (.bool true, some (O3, low)) ∧ demote WV = WV ∧ ntup WV = some WV) ∧ O3.length = O2.length ∧ ∀ id ver, id < O1.length → Ab.getObj O3 id ver = Ab.getObj O2 id ver := by
    by_cases hz : E = 0
    · have hW2 : WV = .lst .frozen (flatV ceV ((withR row sets).map (tw []))) (withR row sets).length := by rw [hWV, withR_len]; exact if_pos (by rw [← hE]; exact hz)
      have hF := xgood hz
      rw [withR_tw] at hF
      have hm : ∀ O, ((withR row sets).map (tw [])).map (Ce.t O) = (withR row sets).map (Ce.t []) := fun O => tm_tw hWk
      rw [hm O1] at hF
      have hz0 : rowE [] cols K row = 0 ∧ setsE [] cols K sets = 0 := by
        rw [hz] at hE
        unfold appE at hE
        split at hE
        · rename_i q; exact ⟨q, hE.symm⟩
        · rename_i q; exact absurd hE.symm q
      obtain ⟨hg, hlen, hch⟩ := row_len hz0.1
      obtain ⟨-, -, hsch⟩ := sets_cols hz0.2
      obtain ⟨p1, p2, -⟩ := chk_pos hg
      have h200 : ∀ p ∈ (withR row sets).map (Ce.t []), p.2.2.length ≤ 200 := fun p hp => by
        obtain ⟨x, hx, rfl⟩ := List.mem_map.1 hp
        rcases withR_mem x hx with h | ⟨s, hs, rfl⟩
        · obtain ⟨j, hj, rfl⟩ := List.getElem_of_mem h
          have := hch j hj
          rw [nth_lt hj] at this
          exact chk_200 this
        · obtain ⟨j, hj, rfl⟩ := List.getElem_of_mem hs
          have := hsch j hj
          unfold setE at this
          split at this
          · cases this
          · rw [nth_lt hj] at this
            exact chk_200 this
      obtain ⟨X, O3, low, q1, q2, q3, q4, q5, q6⟩ := fresh_law (wv := WV) (Wn := (withR row sets).map (tw [])) hF (fun O => by rw [hW2]; exact tw_row hWk) hm h200 (by rw [List.length_map, withR_len]; omega)
      exact ⟨X, O3, low, _, q1, q2, ⟨q3, q4, by rw [hW2]; rfl, by rw [hW2]; rfl⟩, q5, q6⟩
    · have hW2 : WV = .nils := by rw [hWV]; exact if_neg (by rw [← hE]; exact hz)
      have hx := xbad hz
      obtain ⟨X, O3, low, q1, q2, q3, q4, q5, q6⟩ := fresh_law (objs := O1) (O := O2) (xv := xv) (wv := WV) (Wn := []) (want := []) (by rw [hx]; exact Fresh.nil) (fun O => by rw [hW2]; rfl) (fun O => rfl) (by simp) (by simp)
      exact ⟨X, O3, low, _, q1, q2, ⟨q3, q4, by rw [hW2]; rfl, by rw [hW2]; rfl⟩, q5, q6⟩
  have hO1l : O1.length = 1 := by rw [hO1]; rfl
  have g1 : Ab.getObj O1 0 0 = some [v, .int .i64 K] := by rw [hO1]; rfl
  have g2 : Ab.getObj O2 0 0 = some [v, .int .i64 K] := by rw [hold2.2 0 0 (by omega)]; exact g1
  have g3 : Ab.getObj O3 0 0 = some [v, .int .i64 K] := by rw [same3 0 0 (by omega)]; exact g2
  have hO3l : 1 ≤ O3.length := by rw [hl3]; have := hold2.1; omega
  -- Project
  obtain ⟨r, k2, k2p⟩ := s_ProjectK (objs := O3) (S1 O3) (R2 O3) hy (by omega)
  obtain ⟨yv, O4, rfl, hold4, yvd, yvn, ybad, ygood⟩ := k2p _ _ _ _ (S1 O3) (R2 O3) hy
  rw [projE_tw rk] at k2 ybad ygood
  have k2' : ∀ O, k_rProject [.agg [v, .int .i64 K], w, y] O = some (.tup [freshV (rprojV [] cols K row cs), .int .i64 (projE [] cols K row cs)], none) := fun O => by
    have e : rprojV O cols K row cs = rprojV [] cols K row cs := by
      unfold rprojV
      rw [projE_old rk' (old_nil O)]
      split
      · rename_i h0
        rw [twm_of (fun x hx => ?_) (old_nil O)]
        have hin : inB row.length cs = true := by
          unfold projE at h0
          split at h0
          · split at h0
            · assumption
            · cases h0
          · rename_i q; exact absurd h0 q
        unfold projR at hx
        obtain ⟨c, hc, rfl⟩ := List.mem_map.1 hx
        obtain ⟨j, hj, rfl⟩ := List.getElem_of_mem hc
        have := inB_at hin j hj
        rw [nth_lt hj] at this
        exact rk _ (nth_mem (by omega))
      · rfl
    simp (disch := omega) [k_rProject, S1 O, R1 O, hy, e, projE_old rk' (old_nil O)]
  obtain ⟨F, hF⟩ : ∃ F, F = projE [] cols K row cs := ⟨_, rfl⟩
  rw [← hF] at k2 k2' ybad ygood
  obtain ⟨Y, O5, low5, Yn, PV, b1, b2, ⟨b3, b4, b5⟩, hl5, same5⟩ : ∃ (X : List Ce) (O5 : List AO) (low : Nat) (Wn : List Ce) (PV : V), k_AlikeRow [yv, PV] O4 = some (.bool true, none) ∧ k_Texts [yv] O4 = some (.lst (.fresh 1 false) (X.map (·.v)) X.length, none) ∧ (k_Texts [PV] O4 = some (.lst (.fresh 1 false) (Wn.map (·.v)) Wn.length, none) ∧
      k_ApartAll [.lst .frozen (X.map (·.v)) X.length, .lst .frozen (Wn.map (·.v)) Wn.length] O4 = some (.bool true, some (O5, low)) ∧ (demote (freshV (rprojV [] cols K row cs)) = PV ∧ demote PV = PV ∧ ntup PV = some PV)) ∧ O5.length = O4.length ∧ ∀ id ver, id < O3.length → Ab.getObj O5 id ver = Ab.getObj O4 id ver := by
    by_cases hz : F = 0
    · have hz0 : rowE [] cols K row = 0 ∧ inB row.length cs = true := by
        rw [hz] at hF
        unfold projE at hF
        split at hF
        · rename_i q
          split at hF
          · exact ⟨q, by assumption⟩
          · cases hF
        · rename_i q; exact absurd hF.symm q
      obtain ⟨hrE, hin⟩ := hz0
      have hat := inB_at hin
      have hPk : ∀ x ∈ projR row cs, ceOk [] x = true ∧ ∃ j, j < row.length ∧ x = nth row j := fun x hx => by
        unfold projR at hx
        obtain ⟨c, hc, rfl⟩ := List.mem_map.1 hx
        obtain ⟨j, hj, rfl⟩ := List.getElem_of_mem hc
        have := hat j hj
        rw [nth_lt hj] at this
        exact ⟨rk _ (nth_mem (by omega)), _, by omega, rfl⟩
      have hl' : cs.length = (projR row cs).length := by simp [projR]
      have hW2 : rprojV [] cols K row cs = .lst .frozen (flatV ceV ((projR row cs).map (tw []))) (projR row cs).length := by rw [← hl']; exact if_pos (by rw [← hF]; exact hz)
      have hG := ygood hz
      rw [projR_tw hat] at hG
      have hm : ∀ O, ((projR row cs).map (tw [])).map (Ce.t O) = (projR row cs).map (Ce.t []) := fun O => tm_tw fun x hx => (hPk x hx).1
      rw [hm O3] at hG
      have h200 : ∀ p ∈ (projR row cs).map (Ce.t []), p.2.2.length ≤ 200 := fun p hp => by
        obtain ⟨x, hx, rfl⟩ := List.mem_map.1 hp
        obtain ⟨-, j, hj, rfl⟩ := hPk x hx
        exact chk_200 ((row_len hrE).2.2 j hj)
      obtain ⟨X, O5, low, q1, q2, q3, q4, q5, q6⟩ := fresh_law (wv := .lst .frozen (flatV ceV ((projR row cs).map (tw []))) (projR row cs).length) (Wn := (projR row cs).map (tw [])) hG (fun O => tw_row fun x hx => (hPk x hx).1) hm h200 (by rw [List.length_map, ← hl']; omega)
      exact ⟨X, O5, low, _, _, q1, q2, ⟨q3, q4, by rw [hW2]; rfl, rfl, rfl⟩, q5, q6⟩
    · have hW2 : rprojV [] cols K row cs = .nils := if_neg (by rw [← hF]; exact hz)
      have hx := ybad hz
      obtain ⟨X, O5, low, q1, q2, q3, q4, q5, q6⟩ := fresh_law (objs := O3) (O := O4) (xv := yv) (wv := .nils) (Wn := []) (want := []) (by rw [hx]; exact Fresh.nil) (fun O => rfl) (fun O => rfl) (by simp) (by simp)
      exact ⟨X, O5, low, _, _, q1, q2, ⟨q3, q4, by rw [hW2]; rfl, rfl, rfl⟩, q5, q6⟩
  obtain ⟨b5, b6, b7⟩ := b5
  have g4 : Ab.getObj O4 0 0 = some [v, .int .i64 K] := by rw [hold4.2 0 0 (by omega)]; exact g3
  obtain ⟨PW, hPW⟩ : ∃ P : V, P = (freshV (rprojV [] cols K row cs)) := ⟨_, rfl⟩
  rw [← hPW] at k2' b5
  have b8 : ntup PW = some PW := by
    rw [hPW]
    unfold rprojV
    by_cases q : projE [] cols K row cs = 0
    · rw [if_pos q]; rfl
    · rw [if_neg q]; rfl
  have hc1 : clean 0 O2 = true := rfl
  refine .go _ rfl rfl ?_
  simp -implicitDefEqProofs [vd]
  rw [← hO1]
  simp -implicitDefEqProofs (maxSteps := 1000000) (disch := omega) [vd, wd, ud, yd, c_aliveA, aliveA, c_TwinRow, T1, c_TwinSets, T2, ← hM, ← hN, Md, Nd, g1, c_ApplyK, k1, xd, xnt, g2, c_rApply, k1', wvd, wvn, c_AlikeRow, a1, c_Texts, a2, a3, c_ApartAll, a4, A1, c_AlikeSets, A2, g3, c_ProjectK, k2, yvd, yvn, g4, c_rProject, k2', b5, b6, b7, b8, b1, b2, b3, b4])

end Go.Proofs.YtnbgmclbbkfhhaaDoor.B
set_option maxRecDepth 20000
set_option maxHeartbeats 1000000
namespace Go.Proofs.YtnbgmclbbkfhhaaDoor.B
open Go Go.Ab
theorem shp_bytes {D M k : Nat} {v : V} (h : Shp Tryd.prog D M k 59 v) : ∃ l, ofInts .u8 v = some l ∧ b8 l = true ∧ l.length ≤ 140737488351232 := by
  obtain ⟨l, l1, l2, l3, l4⟩ := shp_ints u59 u5 h
  have hb : Tryd.prog.bytesOf 5 = 1 := by kernel_rfl
  rw [hb] at l3
  exact ⟨l, l1, wf_u8 l2, by omega⟩
theorem shp_cell {D M k : Nat} {a b c : V} (h0 : Shp Tryd.prog D M k 4 a) (h1 : Shp Tryd.prog D M k 2 b) (h2 : Shp Tryd.prog D M k 59 c) : ∃ n i, a = .bool n ∧ b = .int .i64 i ∧ ceOk [] ⟨n, i, c⟩ = true := by
  obtain ⟨n, rfl⟩ := shp_bool u4 h0
  obtain ⟨i, rfl, hi⟩ := shp_int u2 h1
  obtain ⟨l, l1, l2, l3⟩ := shp_bytes h2
  exact ⟨n, i, rfl, rfl, (ceOk_of (x := ⟨n, i, c⟩) (i64B_iff.2 (wf_i64 hi)) (ofIntsR_of l1) l2 (by omega)).1⟩
theorem recR_told {α : Type} [Inhabited α] {d : List V → Option α} {e : Nat} {v : V} {l : List α} (h : ofRecL d e v = some l) : recR d e [] v = some l := by
  unfold recR
  split
  · cases h
  · exact h
theorem in_rowS {D M n : Nat} {v : V} (h2 : Shp Tryd.prog (D + 64) M n 25 v) : ∃ l, rowR [] v = some l ∧ l.length * 40 ≤ 140737488351232 ∧ (M = 0 ∨ l.length ≤ M) := by
  have hls : leaves Tryd.prog (D + 64) 82 = [4, 2, 59] := by kernel_rfl
  obtain ⟨l, l1, l2, l3, l4⟩ := shp_recs (d := ceD []) (R := fun _ => True) (m := 3) u25 hls rfl (fun k us hl hs => by
    match us, hl with
    | [a, b, c], _ =>
      obtain ⟨n, i, rfl, rfl, hk⟩ := shp_cell (hs 0 a _ rfl rfl) (hs 1 b _ rfl rfl) (hs 2 c _ rfl rfl)
      exact ⟨⟨n, i, c⟩, ceD_ok.2 hk, trivial⟩) h2
  have hb : Tryd.prog.bytesOf 82 = 40 := by kernel_rfl
  rw [hb] at l3
  exact ⟨l, recR_told l1, l3, l4⟩
theorem in_setS {D M n : Nat} {v : V} (h2 : Shp Tryd.prog (D + 64) M n 26 v) : ∃ l, setsR [] v = some l ∧ l.length * 48 ≤ 140737488351232 ∧ (M = 0 ∨ l.length ≤ M) := by
  have hls : leaves Tryd.prog (D + 64) 84 = [3, 4, 2, 59] := by kernel_rfl
  obtain ⟨l, l1, l2, l3, l4⟩ := shp_recs (d := seD []) (R := fun _ => True) (m := 4) u26 hls rfl (fun k us hl hs => by
    match us, hl with
    | [a, b, c, d], _ =>
      obtain ⟨i0, rfl, hi⟩ := shp_int u3 (hs 0 a _ rfl rfl)
      obtain ⟨n, i, rfl, rfl, hk⟩ := shp_cell (hs 1 b _ rfl rfl) (hs 2 c _ rfl rfl) (hs 3 d _ rfl rfl)
      refine ⟨⟨i0, n, i, d⟩, (seD_ok (c := ⟨i0, n, i, d⟩)).2 ?_, trivial⟩
      unfold seOk
      rw [hk, i64B_iff.2 (wf_i64 hi)]; rfl) h2
  have hb : Tryd.prog.bytesOf 84 = 48 := by kernel_rfl
  rw [hb] at l3
  exact ⟨l, recR_told l1, l3, l4⟩
theorem in_colS {D M n : Nat} {v : V} (h2 : Shp Tryd.prog (D + 64) M n 22 v) : ∃ l, recR coD 3 [] v = some l ∧ short24 l = true ∧ l.length * 32 ≤ 140737488351232 ∧ (M = 0 ∨ l.length ≤ M) := by
  have hls : leaves Tryd.prog (D + 64) 89 = [9, 3, 4] := by kernel_rfl
  obtain ⟨l, l1, l2, l3, l4⟩ := shp_recs (d := coD) (R := fun c => (strL c.nm).length < 140737488355328) (m := 3) u22 hls rfl (fun k us hl hs => by
    match us, hl with
    | [a, b, c], _ =>
      obtain ⟨s, rfl, hs1, -⟩ := shp_str u9 (hs 0 a _ rfl rfl)
      obtain ⟨i, rfl, hi⟩ := shp_int u3 (hs 1 b _ rfl rfl)
      obtain ⟨n, rfl⟩ := shp_bool u4 (hs 2 c _ rfl rfl)
      exact ⟨⟨s, i, n⟩, rfl, by rw [strL_len]; exact Nat.lt_of_le_of_lt hs1 (by decide)⟩) h2
  have hb : Tryd.prog.bytesOf 89 = 32 := by kernel_rfl
  rw [hb] at l3
  exact ⟨l, recR_told l1, by simpa [short24] using l2, l3, l4⟩
theorem in_row {D M n : Nat} {v : V} (h : ShpV Tryd.prog (D + 64) M n 25 v) : ∃ l, rowR [] v = some l ∧ l.length * 40 ≤ 140737488351232 ∧ (M = 0 ∨ l.length ≤ M) := by
  have hg : Ab.isAgg Tryd.prog 25 = false := by kernel_rfl
  exact in_rowS (by unfold ShpV at h; rwa [if_neg (by rw [hg]; simp)] at h)
theorem in_set {D M n : Nat} {v : V} (h : ShpV Tryd.prog (D + 64) M n 26 v) : ∃ l, setsR [] v = some l ∧ l.length * 48 ≤ 140737488351232 ∧ (M = 0 ∨ l.length ≤ M) := by
  have hg : Ab.isAgg Tryd.prog 26 = false := by kernel_rfl
  exact in_setS (by unfold ShpV at h; rwa [if_neg (by rw [hg]; simp)] at h)
theorem in_schema {D M n : Nat} {v : V} (h : ShpV Tryd.prog (D + 64) M n 24 v) : ∃ cols K, schD [] v = some (cols, K) ∧ cols.length * 32 ≤ 140737488351232 ∧ (M = 0 ∨ cols.length ≤ M) ∧ i64B K = true := by
  have hg : Ab.isAgg Tryd.prog 24 = true := by kernel_rfl
  unfold ShpV at h
  rw [if_pos hg] at h
  obtain ⟨us, rfl, hl, hs⟩ := h
  have hls : leaves Tryd.prog (D + 64) 24 = [22, 3] := by kernel_rfl
  rw [hls] at hl hs
  match us, hl with
  | [a, b], _ =>
    obtain ⟨cols, c1, c2, c3, c4⟩ := in_colS (hs 0 a _ rfl rfl)
    obtain ⟨K, rfl, hK⟩ := shp_int u3 (hs 1 b _ rfl rfl)
    exact ⟨cols, K, schD_of c1 (by omega) c2, c3, c4, i64B_iff.2 (wf_i64 hK)⟩
theorem in_ints {D M n : Nat} {v : V} (h : ShpV Tryd.prog D M n 44 v) : ∃ l, ofInts .i64 v = some l ∧ l.length * 8 ≤ 140737488351232 ∧ (M = 0 ∨ l.length ≤ M) := by
  have hg : Ab.isAgg Tryd.prog 44 = false := by kernel_rfl
  have h2 : Shp Tryd.prog D M n 44 v := by unfold ShpV at h; rwa [if_neg (by rw [hg]; simp)] at h
  obtain ⟨l, l1, l2, l3, l4⟩ := shp_ints u44 u3 h2
  have hb : Tryd.prog.bytesOf 3 = 8 := by kernel_rfl
  rw [hb] at l3
  exact ⟨l, l1, l3, l4⟩

/-! the statements over what is of bounded bulk -/
theorem bulk_mem {H : Type} {d : DataW H} : ∀ {l : List (DataW H)}, d ∈ l → Rows.uptoBulk d ≤ Rows.uptoBulkAll l
  | x :: l, h => by
    rcases List.mem_cons.1 h with rfl | q
    · simp only [Rows.uptoBulkAll]; omega
    · have := bulk_mem q; simp only [Rows.uptoBulkAll]; omega
theorem bulk_one {H : Type} (d : DataW H) : 1 ≤ Rows.uptoBulk d := by
  cases d with
  | lit l => cases l <;> simp [Rows.uptoBulk]
  | nil => simp [Rows.uptoBulk]
  | ptr d => simp [Rows.uptoBulk]
  | slice elems spare => simp [Rows.uptoBulk]
  | agg parts => simp [Rows.uptoBulk]
  | iface t d => simp [Rows.uptoBulk]
  | map entries => simp [Rows.uptoBulk]
  | held h => simp [Rows.uptoBulk]
theorem bulk_len {H : Type} (l : List (DataW H)) : l.length ≤ Rows.uptoBulkAll l := by
  induction l with
  | nil => simp [Rows.uptoBulkAll]
  | cons x r ih => have := bulk_one x; simp only [Rows.uptoBulkAll, List.length_cons]; omega
theorem bulkB {H : Type} : Bulk (Rows.uptoBulk (H := H)) where
  str bs := by simp only [Rows.uptoBulk]; omega
  ptr d := by simp only [Rows.uptoBulk]; omega
  len es sp := by have := bulk_len es; simp only [Rows.uptoBulk]; omega
  elem es sp d h := by have := bulk_mem h; simp only [Rows.uptoBulk]; omega
  part ps d h := by have := bulk_mem h; simp only [Rows.uptoBulk]; omega

theorem walk_SchemaApplies {D n : Nat} {vs : List V} {args : Array Value} {W : World} (hS : ShpAll Tryd.prog (D + 64) 1048576 n [24, 25, 26, 44] vs) (hA : AR (top W) W vs args.toList) : Calls Tryd.prog 4 args W fun e W' => e = .returned (.bool true) ∧ Go.RowKit.Below W.heap.size W W' := by
  match vs, hS with
  | [v0, v1, v2, v3], ⟨s0, s1, s2, s3, _⟩ =>
    obtain ⟨cols, K, c1, c2, -⟩ := in_schema s0
    obtain ⟨row, r1, r2, -⟩ := in_row s1
    obtain ⟨sets, t1, t2, -⟩ := in_set s2
    obtain ⟨cs, y1, y2, y3⟩ := in_ints s3
    refine whole fit T_SchemaApplies_ok (fn := Tryd.f4) (by kernel_rfl) (by kernel_rfl) ?_ hA
    show k_SchemaApplies [v0, v1, v2, v3] [] = _
    simp (disch := omega) [k_SchemaApplies, c1, r1, t1, y1]

end Go.Proofs.YtnbgmclbbkfhhaaDoor.B
