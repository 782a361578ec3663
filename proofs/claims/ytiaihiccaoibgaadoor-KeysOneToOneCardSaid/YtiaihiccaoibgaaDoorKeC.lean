import Derived.Test.YtiaihiccaoibgaaDoorKeB
set_option linter.unusedSimpArgs false
set_option linter.unusedVariables false
set_option linter.unusedSectionVars false
set_option maxRecDepth 20000
set_option maxHeartbeats 1000000
namespace Go.Proofs.YtiaihiccaoibgaaDoor.B
open Go Go.Ab
/-! schemas -/
structure Co where
  nm : ByteArray
  k : Int
  n : Bool
instance : Inhabited Co := ⟨⟨ByteArray.empty, 0, false⟩⟩
def coV (c : Co) : List V := [.str c.nm, .int .i64 c.k, .bool c.n]
def coD : List V → Option Co
  | [.str s, .int .i64 k, .bool n] => some ⟨s, k, n⟩
  | _ => none
theorem coV_len (c : Co) : (coV c).length = 3 := rfl
theorem coD_coV (c : Co) : coD (coV c) = some c := rfl
theorem coD_inv (x : List V) (c : Co) (h : coD x = some c) : x = coV c := by
  unfold coD at h; split at h <;> cases h; rfl
def namesM (l : List Co) : List (V × V) := l.map fun c => (.str c.nm, .bool true)
theorem find_names (s : ByteArray) : ∀ (l : List Co) (i : Nat), ∃ r, findV .string (.str s) (namesM l) i = some r ∧ (l.any (fun c => decide (strL c.nm = strL s)) = false → r = none) ∧ (l.any (fun c => decide (strL c.nm = strL s)) = true → ∃ j, r = some (j, .bool true))
  | [], i => ⟨none, rfl, fun _ => rfl, fun h => by simp at h⟩
  | c :: l, i => by
    have e : namesM (c :: l) = (.str c.nm, .bool true) :: namesM l := rfl
    rw [e, List.any_cons]
    unfold findV
    simp only [keyEq, str_key]
    by_cases h : strL s = strL c.nm
    · rw [decide_eq_true h, decide_eq_true h.symm]
      exact ⟨_, rfl, fun h => by simp at h, fun _ => ⟨i, rfl⟩⟩
    · rw [decide_eq_false h, decide_eq_false (fun q => h q.symm), Bool.false_or]
      exact find_names s l (i + 1)
theorem zbool : zval Tryd.prog 4 = some (.bool false) := by kernel_rfl
theorem key_str (s : ByteArray) : keyOk .string (.str s) = true := rfl
theorem look_names {O : List AO} {m : Nat} {l : List Co} (hg : getMap O m = some (namesM l)) (s : ByteArray) : lookupV Tryd.prog 86 (.map m) (.str s) false O = some (.bool (l.any fun c => decide (strL c.nm = strL s))) := by
  obtain ⟨r, h1, h2, h3⟩ := find_names s l 0
  unfold lookupV
  simp only [u86, rowMap, hg, u9, key_str, if_true, h1, zbool]
  cases ha : l.any fun c => decide (strL c.nm = strL s) with
  | false => rw [h2 ha]; rfl
  | true => obtain ⟨j, e⟩ := h3 ha; rw [e]; rfl
theorem upd_names {O : List AO} {m base low : Nat} {l : List Co} {c : Co} (hg : getMap O m = some (namesM l)) (ha : l.any (fun d => decide (strL d.nm = strL c.nm)) = false) : updateV Tryd.prog 86 (.map m) (.str c.nm) (.bool true) base O low = some (.undef, O.set m (.map (namesM (l ++ [c]))), if m < low then m else low) := by
  obtain ⟨r, h1, h2, h3⟩ := find_names c.nm l 0
  have hr := h2 ha
  subst hr
  unfold updateV
  simp only [u86, hg, u9, h1, key_str]
  rw [if_pos ⟨trivial, fun _ => rfl⟩]
  simp [putMap, namesM]
/-- A box and a map behind it. -/
def BoxM (n : Nat) (sv : List V) (es : List (V × V)) (O : List AO) : Prop := Ab.getObj O n 0 = some sv ∧ getMap O (n + 1) = some es
theorem getMap_lt {O : List AO} {m : Nat} {es : List (V × V)} (h : getMap O m = some es) : m < O.length := by
  unfold getMap at h
  split at h
  · rename_i c hg; exact (List.getElem?_eq_some_iff.1 hg).1
  · cases h
theorem getMap_app {O X : List AO} {m : Nat} (h : m < O.length) : getMap (O ++ X) m = getMap O m := by unfold getMap; rw [List.getElem?_append_left h]
theorem BoxM.app {n : Nat} {sv : List V} {es : List (V × V)} {O : List AO} (h : BoxM n sv es O) (X : List AO) : BoxM n sv es (O ++ X) :=
  ⟨by rw [getObj_app (getObj_lt h.1)]; exact h.1, by rw [getMap_app (getMap_lt h.2)]; exact h.2⟩
theorem BoxM.upd {n : Nat} {sv : List V} {es : List (V × V)} {O : List AO} (h : BoxM n sv es O) (es' : List (V × V)) : BoxM n sv es' (O.set (n + 1) (.map es')) :=
  ⟨by rw [getObj_set_ne (by omega)]; exact h.1, by have := getMap_lt h.2; simp [getMap, this]⟩
def colOk (cols : List Co) (K : Int) (i : Nat) : Bool :=
  nameOk (strL (nth cols i).nm) && (decide (1 ≤ (nth cols i).k) && decide ((nth cols i).k ≤ 8)) && !(decide ((i : Int) < K) && (nth cols i).n) && !((cols.take i).any fun d => decide (strL d.nm = strL (nth cols i).nm))
def headOk (cols : List Co) (K : Int) : Bool := decide (1 ≤ cols.length) && decide (cols.length ≤ 12) && decide (1 ≤ K) && decide (K ≤ 3) && decide (K ≤ cols.length)
def schemaOk (cols : List Co) (K : Int) : Bool := headOk cols K && (List.range cols.length).all (colOk cols K)
theorem schema_bad {cols : List Co} {K : Int} {i : Nat} (h : i < cols.length) (hc : colOk cols K i = false) : schemaOk cols K = false := by
  unfold schemaOk
  rw [Bool.and_eq_false_iff]
  right
  rw [Bool.eq_false_iff]
  intro q
  rw [List.all_eq_true] at q
  have := q i (by simpa using h)
  rw [hc] at this; cases this
theorem schema_good {cols : List Co} {K : Int} (hh : headOk cols K = true) (h : ∀ i, i < cols.length → colOk cols K i = true) : schemaOk cols K = true := by
  unfold schemaOk
  rw [hh, Bool.true_and, List.all_eq_true]
  intro i hi
  exact h i (by simpa using hi)
def chkR (cols : List Co) (K : Int) : Int := if schemaOk cols K = true then 0 else 60
theorem chk_bad {cols : List Co} {K : Int} (h : schemaOk cols K = false) : chkR cols K = 60 := if_neg (by rw [h]; simp)
theorem chk_good {cols : List Co} {K : Int} (h : schemaOk cols K = true) : chkR cols K = 0 := if_pos h
theorem chk_head {cols : List Co} {K : Int} (h : headOk cols K = false) : chkR cols K = 60 := chk_bad (by unfold schemaOk; rw [h]; rfl)
/-- A list of columns, and what it is handed with. -/
theorem colsV {objs : List AO} {v : V} {cols : List Co} (h : recR coD 3 objs v = some cols) : RowV objs 3 v (flatV coV cols) cols.length := recR_inv coV_len coD_inv h
theorem col_f1 (v : V) (cs : List V) (j : Nat) : fieldAddrV Tryd.prog 68 (ptAt v cs j) 1 = some (ptAt v cs (j + 1)) := by cases v <;> simp [ptAt, fieldAddrV, Nat.add_assoc]
theorem col_f2 (v : V) (cs : List V) (j : Nat) : fieldAddrV Tryd.prog 68 (ptAt v cs j) 2 = some (ptAt v cs (j + 2)) := by cases v <;> simp [ptAt, fieldAddrV, Nat.add_assoc]
theorem col_f0 (v : V) (cs : List V) (j : Nat) : fieldAddrV Tryd.prog 68 (ptAt v cs j) 0 = some (ptAt v cs j) := by cases v <;> simp [ptAt, fieldAddrV]
theorem col_get {objs : List AO} {v : V} {cols : List Co} (h : RowV objs 3 v (flatV coV cols) cols.length) {i : Nat} (hi : i < cols.length) :
    loadV Tryd.prog 68 objs (ptAt v (flatV coV cols) (i * 3)) = some (.agg (coV (nth cols i))) ∧ loadV Tryd.prog 9 objs (ptAt v (flatV coV cols) (i * 3)) = some (.str (nth cols i).nm) ∧
    loadV Tryd.prog 3 objs (ptAt v (flatV coV cols) (i * 3 + 1)) = some (.int .i64 (nth cols i).k) ∧ loadV Tryd.prog 4 objs (ptAt v (flatV coV cols) (i * 3 + 2)) = some (.bool (nth cols i).n) := by
  have hf := flatV_fit coV_len hi
  refine ⟨?_, ?_, ?_, ?_⟩
  · rw [h.agg (n := 3) g68 hf, flatV_at coV_len hi]
  · exact h.get g9 (x := .str (nth cols i).nm) (by have := flatV_get (j := 0) coV_len hi (by omega); simpa [coV] using this)
  · exact h.get g3 (x := .int .i64 (nth cols i).k) (by have := flatV_get (j := 1) coV_len hi (by omega); simpa [coV] using this)
  · exact h.get g4 (x := .bool (nth cols i).n) (by have := flatV_get (j := 2) coV_len hi (by omega); simpa [coV] using this)
theorem coV_refs (cols : List Co) (b : Nat) : norefs b (flatV coV cols) = true := norefs_iff.2 fun v hv => by
  obtain ⟨c, -, h⟩ := List.mem_flatMap.1 hv
  simp only [coV, List.mem_cons, List.not_mem_nil, or_false] at h
  rcases h with rfl | rfl | rfl <;> rfl
def short24 (cols : List Co) : Bool := cols.all fun c => decide ((strL c.nm).length < 140737488355328)
noncomputable def k_schCheck : Ab.Spec := con1 some fun s objs => match s with
  | .agg [v, .int .i64 K] => match recR coD 3 objs v with
    | some cols => bnd cols.length 140737488355328 (if short24 cols = true then some (.int .i64 (chkR cols K), none) else none)
    | none => none
  | _ => none
noncomputable def T_schCheck : CallF := withF T_badName 39 k_schCheck
theorem T_schCheck_ok : CallOk Tryd.prog T_schCheck := con_of (A := annOf [] [] [] false []) fit T_badName_ok (fn := Tryd.f39) (by kernel_rfl) (by kernel_rfl) (by
  intro args objs r h0
  have c_badName : ∀ a o, T_badName 57 a o = k_badName a o := fun _ _ => rfl
  obtain ⟨s, _, rfl, hs, hR⟩ := con1_inv h0
  cases hs
  split at hR
  case h_2 => cases hR
  rename_i v K
  split at hR
  case h_2 => cases hR
  rename_i cols hc
  obtain ⟨hl, hR⟩ := bnd_inv hR
  split at hR
  case isFalse => cases hR
  rename_i hsh
  cases hR
  have hsh : ∀ c ∈ cols, (strL c.nm).length < 140737488355328 := by simpa [short24] using hsh
  have hv := colsV hc
  have vd := hv.dem
  have vn := hv.size (P := Tryd.prog) u22
  have vo := hv.one
  have vdf := hv.isDef
  have vc := hv.cells
  have vnr := hv.noref (Nat.le_refl _) (coV_refs cols objs.length)
  have vi := hv.idx (P := Tryd.prog) u22 z68
  refine .go _ rfl rfl ?_
  by_cases h1 : cols.length < 1
  · have hg : chkR cols K = 60 := chk_head (by unfold headOk; rw [decide_eq_false (p := 1 ≤ cols.length) (by omega)]; rfl)
    simp -implicitDefEqProofs (disch := omega) [vd, vn, h1, hg]
  by_cases h2 : 12 < cols.length
  · have hg : chkR cols K = 60 := chk_head (by unfold headOk; rw [decide_eq_false (p := cols.length ≤ 12) (by omega)]; simp)
    simp -implicitDefEqProofs (disch := omega) [vd, vn, h1, h2, hg]
  by_cases h3 : K < 1
  · have hg : chkR cols K = 60 := chk_head (by unfold headOk; rw [decide_eq_false (p := 1 ≤ K) (by omega)]; simp)
    simp -implicitDefEqProofs (disch := omega) [vd, vn, h1, h2, h3, hg]
  obtain ⟨mn, hmn⟩ : ∃ mn : Int, mn = if (cols.length : Int) < 3 then (cols.length : Int) else 3 := ⟨_, rfl⟩
  by_cases h4 : mn < K
  · have hg : chkR cols K = 60 := chk_head (by
      unfold headOk
      by_cases q : (cols.length : Int) < 3
      · rw [if_pos q] at hmn; rw [decide_eq_false (p := K ≤ (cols.length : Int)) (by omega)]; simp
      · rw [if_neg q] at hmn; rw [decide_eq_false (p := K ≤ 3) (by omega)]; simp)
    simp -implicitDefEqProofs (disch := omega) [vd, vn, h1, h2, h3, ← hmn, h4, hg]
  have hh : headOk cols K = true := by
    unfold headOk
    simp only [Bool.and_eq_true, decide_eq_true_eq]
    split at hmn <;> omega
  have hmt : isMapT Tryd.prog 86 = true := by kernel_rfl
  simp -implicitDefEqProofs (disch := omega) [vd, vn, h1, h2, h3, ← hmn, h4, hmt]
  obtain ⟨I, hI⟩ : ∃ I : Nat → St → Prop, I = (fun (i : Nat) (z : St) => z.env 1 = .ptr objs.length 0 0 ∧ z.env 3 = .map (objs.length + 1) ∧ z.env 33 = v ∧ z.env 34 = .int .i64 cols.length ∧ z.env 35 = .int .i64 i ∧ z.toks = [] ∧ z.low = objs.length ∧
    BoxM objs.length [v, .int .i64 K] (namesM (cols.take i)) z.objs ∧ Old objs z.objs ∧ ∀ j, j < i → colOk cols K j = true) := ⟨_, rfl⟩
  refine .up cols.length I (by rw [hI]; exact ⟨by simp, by simp, by simp, by simp, by simp, rfl, rfl, ⟨by simp, by simp [namesM]⟩, Old.ext _ _, fun j hj => absurd hj (by omega)⟩) ?_
  intro i z hi hz
  rw [hI] at hz
  obtain ⟨e1, e3, e33, e34, e35, ht, hlo, hbox, hold, hpre⟩ := hz
  obtain ⟨O, ho⟩ : ∃ O, O = z.objs := ⟨_, rfl⟩
  rw [← ho] at hbox hold
  have ho := ho.symm
  rcases Nat.lt_or_ge i cols.length with h | h
  case inr =>
    obtain rfl : i = cols.length := by omega
    have hg : chkR cols K = 0 := chk_good (schema_good hh hpre)
    simp -implicitDefEqProofs (disch := omega) [e1, e3, e33, e34, e35, ht, ho, hlo, hg]
  have hOl : objs.length < O.length := getObj_lt hbox.1
  have hOl2 : ¬ O.length < objs.length := by omega
  obtain ⟨c, hcc⟩ : ∃ c, c = nth cols i := ⟨_, rfl⟩
  have hcl := hsh _ (nth_mem h)
  have ix := vi .i64 i (by omega) (by omega)
  rw [Int.toNat_natCast] at ix
  have hbox2 := fun X => hbox.app X
  obtain ⟨b1, b2⟩ := hbox
  have b1' := fun X => (hbox2 X).1
  have b2' := fun X => (hbox2 X).2
  obtain ⟨g1, -⟩ := col_get (hv.old hold) h
  obtain ⟨nm, k, nl⟩ := c
  rw [← hcc] at g1 hcl
  have hst : setCells [V.str ByteArray.empty, .int .i64 0, .bool false] 0 (coV ⟨nm, k, nl⟩) = coV ⟨nm, k, nl⟩ := rfl
  have hcol : colOk cols K i = (nameOk (strL nm) && (decide (1 ≤ k) && decide (k ≤ 8)) && !(decide ((i : Int) < K) && nl) && !((cols.take i).any fun d => decide (strL d.nm = strL nm))) := by unfold colOk; rw [← hcc]
  have bad : colOk cols K i = false → chkR cols K = 60 := fun q => chk_bad (schema_bad h q)
  obtain ⟨dup, hdup⟩ : ∃ dup, dup = (cols.take i).any fun d => decide (strL d.nm = strL nm) := ⟨_, rfl⟩
  have hlk := fun X => look_names (b2' X) nm
  simp only [← hdup] at hlk
  rw [← hdup] at hcol
  by_cases k1 : k < 1
  · have hg := bad (by rw [hcol, decide_eq_false (p := 1 ≤ k) (by omega)]; simp)
    cases hn : nameOk (strL nm) <;> cases hd : dup <;> rw [hd] at hlk <;>
      simp -implicitDefEqProofs (disch := omega) [e1, e3, e33, e34, e35, ht, ho, hlo, h, ix, b1, b2, b1', b2', c_badName, k_badName, hcl, hOl2, g1, coV, setCells, k1, hn, hlk, hg]
  by_cases k8 : 8 < k
  · have hg := bad (by rw [hcol, decide_eq_false (p := k ≤ 8) (by omega)]; simp)
    cases hn : nameOk (strL nm) <;> cases hd : dup <;> rw [hd] at hlk <;>
      simp -implicitDefEqProofs (disch := omega) [e1, e3, e33, e34, e35, ht, ho, hlo, h, ix, b1, b2, b1', b2', c_badName, k_badName, hcl, hOl2, g1, coV, setCells, k1, k8, hn, hlk, hg]
  rw [decide_eq_true (p := 1 ≤ k) (by omega), decide_eq_true (p := k ≤ 8) (by omega), Bool.and_true, Bool.and_true] at hcol
  cases hn : nameOk (strL nm) with
  | false =>
    have hg := bad (by rw [hcol, hn]; rfl)
    simp -implicitDefEqProofs (disch := omega) [e1, e3, e33, e34, e35, ht, ho, hlo, h, ix, b1, b2, b1', b2', c_badName, k_badName, hcl, hOl2, g1, coV, setCells, k1, k8, hn, hlk, hg]
  | true =>
  rw [hn, Bool.true_and] at hcol
  cases hd : dup with
  | true =>
    have hg := bad (by rw [hcol, hd]; simp)
    rw [hd] at hlk
    simp -implicitDefEqProofs (disch := omega) [e1, e3, e33, e34, e35, ht, ho, hlo, h, ix, b1, b2, b1', b2', c_badName, k_badName, hcl, hOl2, g1, coV, setCells, k1, k8, hn, hlk, hg]
  | false =>
  rw [hd] at hlk hcol
  have hup := fun X base low => upd_names (base := base) (low := low) (c := ⟨nm, k, nl⟩) (b2' X) (by rw [← hdup, hd])
  have etk : cols.take i ++ [⟨nm, k, nl⟩] = cols.take (i + 1) := by rw [take_nth h, ← hcc]
  simp only [etk] at hup
  have hbx := fun X => (hbox2 X).upd (namesM (cols.take (i + 1)))
  have hod := fun X => (hold.app X).set (i := objs.length + 1) (x := .map (namesM (cols.take (i + 1)))) (by omega)
  have fin : colOk cols K i = true → ∀ j, j < i + 1 → colOk cols K j = true := fun q j hj => by
    rcases Nat.lt_or_ge j i with hj2 | hj2
    · exact hpre j hj2
    · obtain rfl : j = i := by omega
      exact q
  by_cases hK : (i : Int) < K
  · cases nl with
    | true =>
      have hg := bad (by rw [hcol, decide_eq_true hK]; rfl)
      simp -implicitDefEqProofs (disch := omega) [e1, e3, e33, e34, e35, ht, ho, hlo, h, ix, b1, b2, b1', b2', c_badName, k_badName, hcl, hOl2, g1, coV, setCells, k1, k8, hn, hlk, hK, hg]
    | false =>
      have hf := fin (by rw [hcol]; simp)
      simp -implicitDefEqProofs (disch := omega) [e1, e3, e33, e34, e35, ht, ho, hlo, h, ix, b1, b2, b1', b2', c_badName, k_badName, hcl, hOl2, g1, coV, setCells, k1, k8, hn, hlk, hK, hup, wrap_small]
      rw [hI]
      exact ⟨by simp [e1], by simp [e3], by simp [e33], by simp [e34], by simp, rfl, by simp, hbx _, hod _, hf⟩
  · have hf := fin (by rw [hcol, decide_eq_false hK]; simp)
    simp -implicitDefEqProofs (disch := omega) [e1, e3, e33, e34, e35, ht, ho, hlo, h, ix, b1, b2, b1', b2', c_badName, k_badName, hcl, hOl2, g1, coV, setCells, k1, k8, hn, hlk, hK, hup, wrap_small]
    rw [hI]
    exact ⟨by simp [e1], by simp [e3], by simp [e33], by simp [e34], by simp, rfl, by simp, hbx _, hod _, hf⟩)

end Go.Proofs.YtiaihiccaoibgaaDoor.B
set_option maxRecDepth 20000
set_option maxHeartbeats 1000000
namespace Go.Proofs.YtiaihiccaoibgaaDoor.B
open Go Go.Ab
theorem nameC_iff {c : Int} (h0 : 0 ≤ c) (h1 : c < 256) : nameC c = (decide (97 ≤ c ∧ c ≤ 122) || decide (48 ≤ c ∧ c ≤ 57) || decide (c = 95)) := by
  obtain ⟨n, rfl⟩ := Int.eq_ofNat_of_zero_le h0
  have hn : n < 256 := by omega
  have : ∀ m : Fin 256, nameC ((m.val : Nat) : Int) = (decide (97 ≤ ((m.val : Nat) : Int) ∧ ((m.val : Nat) : Int) ≤ 122) || decide (48 ≤ ((m.val : Nat) : Int) ∧ ((m.val : Nat) : Int) ≤ 57) || decide (((m.val : Nat) : Int) = 95)) := by decide +kernel
  exact this ⟨n, hn⟩
theorem all_false {l : List Int} {p : Int → Bool} {i : Nat} (h : i < l.length) (hp : p (nth l i) = false) : l.all p = false := by
  rw [Bool.eq_false_iff]
  intro q
  rw [List.all_eq_true] at q
  have := q _ (nth_mem h)
  rw [hp] at this; cases this
theorem all_true {l : List Int} {p : Int → Bool} (h : ∀ i, i < l.length → p (nth l i) = true) : l.all p = true := by
  rw [List.all_eq_true]
  intro c hc
  obtain ⟨j, hj, e⟩ := List.getElem_of_mem hc
  have := h j hj
  rwa [nth_lt hj, e] at this
noncomputable def k_rName : Ab.Spec := con1 ofStr fun s _ => bnd (strL s).length 140737488355328 (some (.bool (nameOk (strL s)), none))
noncomputable def T_rName : CallF := withF T_schCheck 51 k_rName
theorem T_rName_ok : CallOk Tryd.prog T_rName := con_of (A := annOf [] [] [] false []) fit T_schCheck_ok (fn := Tryd.f51) (by kernel_rfl) (by kernel_rfl) (by
  intro args objs r h0
  obtain ⟨_, s, rfl, hs, hR⟩ := con1_inv h0
  obtain rfl := ofStr_inv hs
  obtain ⟨hl, hR⟩ := bnd_inv hR
  cases hR
  have hn := str_len (P := Tryd.prog) u9 s
  have hi := fun k i h0 h1 => str_index (P := Tryd.prog) (s := s) u9 k (i := i) h0 h1
  obtain ⟨l, hL⟩ : ∃ l, l = strL s := ⟨_, rfl⟩
  have hB : ∀ c ∈ l, 0 ≤ c ∧ c < 256 := by rw [hL]; exact strL_byte
  rw [← hL] at hl hn hi
  rw [← hL]
  refine .go _ rfl rfl ?_
  by_cases h1 : l.length < 1
  · have hk : nameOk l = false := by unfold nameOk; rw [decide_eq_false (p := 1 ≤ l.length) (by omega)]; rfl
    simp -implicitDefEqProofs (disch := omega) [hn, h1, hk]
  by_cases h2 : 24 < l.length
  · have hk : nameOk l = false := by unfold nameOk; rw [decide_eq_false (p := l.length ≤ 24) (by omega)]; simp
    simp -implicitDefEqProofs (disch := omega) [hn, h1, h2, hk]
  have hk : nameOk l = l.all nameC := by unfold nameOk; rw [decide_eq_true (p := 1 ≤ l.length) (by omega), decide_eq_true (p := l.length ≤ 24) (by omega)]; simp
  rw [hk]
  simp -implicitDefEqProofs (disch := omega) [hn, h1, h2]
  obtain ⟨I, hI⟩ : ∃ I : Nat → St → Prop, I = (fun (i : Nat) (z : St) => z.env 0 = .str s ∧ z.env 3 = .int .i64 i ∧ z.toks = [] ∧ z.objs = objs ∧ z.low = objs.length ∧ ∀ j, j < i → nameC (nth l j) = true) := ⟨_, rfl⟩
  refine .up l.length I (by rw [hI]; exact ⟨by simp, by simp, rfl, rfl, rfl, fun j hj => absurd hj (by omega)⟩) ?_
  intro i z hi2 hz
  rw [hI] at hz
  obtain ⟨e0, e3, ht, ho, hlo, hpre⟩ := hz
  rcases Nat.lt_or_ge i l.length with h | h
  case inr =>
    obtain rfl : i = l.length := by omega
    have ha := all_true hpre
    simp -implicitDefEqProofs (disch := omega) [e0, e3, ht, ho, hlo, hn, ha]
  have ix := hi .i64 i (by omega) (by omega)
  rw [Int.toNat_natCast] at ix
  obtain ⟨c, hc⟩ : ∃ c, c = nth l i := ⟨_, rfl⟩
  obtain ⟨c0, c1⟩ := hB _ (nth_mem h)
  rw [← hc] at ix c0 c1
  have hC := nameC_iff c0 c1
  have bad : nameC c = false → l.all nameC = false := fun q => all_false h (by rw [← hc]; exact q)
  have fin : nameC c = true → I (i + 1) z → True := fun _ _ => trivial
  have good : nameC c = true → ∀ j, j < i + 1 → nameC (nth l j) = true := fun q j hj => by
    rcases Nat.lt_or_ge j i with hj2 | hj2
    · exact hpre j hj2
    · obtain rfl : j = i := by omega
      rw [← hc]; exact q
  have w1 : IntKind.i64.wrap ((i : Int) + 1) = (i : Int) + 1 := wrap_small (by omega) (by omega)
  by_cases a1 : 97 ≤ c
  · by_cases a2 : c ≤ 122
    · have hg := good (by rw [hC, decide_eq_true (p := 97 ≤ c ∧ c ≤ 122) ⟨a1, a2⟩]; rfl)
      simp -implicitDefEqProofs (disch := omega) [e0, e3, ht, ho, hlo, hn, h, ix, a1, a2, w1, hI]
      exact hg
    · have hg := bad (by rw [hC, decide_eq_false (p := 97 ≤ c ∧ c ≤ 122) (by omega), decide_eq_false (p := 48 ≤ c ∧ c ≤ 57) (by omega), decide_eq_false (p := c = 95) (by omega)]; rfl)
      have b1 : 48 ≤ c := by omega
      have b2 : ¬ c ≤ 57 := by omega
      simp -implicitDefEqProofs (disch := omega) [e0, e3, ht, ho, hlo, hn, h, ix, a1, a2, b1, b2, hg]
  · by_cases b1 : 48 ≤ c
    · by_cases b2 : c ≤ 57
      · have hg := good (by rw [hC, decide_eq_true (p := 48 ≤ c ∧ c ≤ 57) ⟨b1, b2⟩]; simp)
        simp -implicitDefEqProofs (disch := omega) [e0, e3, ht, ho, hlo, hn, h, ix, a1, b1, b2, w1, hI]
        exact hg
      · by_cases b3 : c = 95
        · have hg := good (by rw [hC, decide_eq_true b3]; simp)
          have b4 : (c == 95) = true := by simpa using b3
          simp -implicitDefEqProofs (disch := omega) [e0, e3, ht, ho, hlo, hn, h, ix, a1, b1, b2, b4, w1, hI]
          exact hg
        · have hg := bad (by rw [hC, decide_eq_false (p := 97 ≤ c ∧ c ≤ 122) (by omega), decide_eq_false (p := 48 ≤ c ∧ c ≤ 57) (by omega), decide_eq_false (p := c = 95) b3]; rfl)
          have b4 : (c == 95) = false := by simpa using b3
          simp -implicitDefEqProofs (disch := omega) [e0, e3, ht, ho, hlo, hn, h, ix, a1, b1, b2, b4, hg]
    · have hg := bad (by rw [hC, decide_eq_false (p := 97 ≤ c ∧ c ≤ 122) (by omega), decide_eq_false (p := 48 ≤ c ∧ c ≤ 57) (by omega), decide_eq_false (p := c = 95) (by omega)]; rfl)
      have b4 : (c == 95) = false := by simp; omega
      simp -implicitDefEqProofs (disch := omega) [e0, e3, ht, ho, hlo, hn, h, ix, a1, b1, b4, hg])
noncomputable def k_rSchema : Ab.Spec := con1 some fun s objs => match s with
  | .agg [v, .int .i64 K] => match recR coD 3 objs v with
    | some cols => bnd cols.length 140737488355328 (if short24 cols = true then some (.int .i64 (chkR cols K), none) else none)
    | none => none
  | _ => none
noncomputable def T_rSchema : CallF := withF T_rName 36 k_rSchema
theorem T_rSchema_ok : CallOk Tryd.prog T_rSchema := con_of (A := annOf [] [] [] false []) fit T_rName_ok (fn := Tryd.f36) (by kernel_rfl) (by kernel_rfl) (by
  intro args objs r h0
  have c_rName : ∀ a o, T_rName 51 a o = k_rName a o := fun _ _ => rfl
  obtain ⟨s, _, rfl, hs, hR⟩ := con1_inv h0
  cases hs
  split at hR
  case h_2 => cases hR
  rename_i v K
  split at hR
  case h_2 => cases hR
  rename_i cols hc
  obtain ⟨hl, hR⟩ := bnd_inv hR
  split at hR
  case isFalse => cases hR
  rename_i hsh
  cases hR
  have hsh : ∀ c ∈ cols, (strL c.nm).length < 140737488355328 := by simpa [short24] using hsh
  have hv := colsV hc
  have vd := hv.dem
  have vn := hv.size (P := Tryd.prog) u22
  have vi := hv.idx (P := Tryd.prog) u22 z68
  refine .go _ rfl rfl ?_
  by_cases h1 : cols.length < 1
  · have hg : chkR cols K = 60 := chk_head (by unfold headOk; rw [decide_eq_false (p := 1 ≤ cols.length) (by omega)]; rfl)
    simp -implicitDefEqProofs (disch := omega) [vd, vn, h1, hg]
  by_cases h2 : 12 < cols.length
  · have hg : chkR cols K = 60 := chk_head (by unfold headOk; rw [decide_eq_false (p := cols.length ≤ 12) (by omega)]; simp)
    simp -implicitDefEqProofs (disch := omega) [vd, vn, h1, h2, hg]
  by_cases h3 : K < 1
  · have hg : chkR cols K = 60 := chk_head (by unfold headOk; rw [decide_eq_false (p := 1 ≤ K) (by omega)]; simp)
    simp -implicitDefEqProofs (disch := omega) [vd, vn, h1, h2, h3, hg]
  by_cases h4 : 3 < K
  · have hg : chkR cols K = 60 := chk_head (by unfold headOk; rw [decide_eq_false (p := K ≤ 3) (by omega)]; simp)
    simp -implicitDefEqProofs (disch := omega) [vd, vn, h1, h2, h3, h4, hg]
  by_cases h5 : (cols.length : Int) < K
  · have hg : chkR cols K = 60 := chk_head (by unfold headOk; rw [decide_eq_false (p := K ≤ (cols.length : Int)) (by omega)]; simp)
    simp -implicitDefEqProofs (disch := omega) [vd, vn, h1, h2, h3, h4, h5, hg]
  have hh : headOk cols K = true := by
    unfold headOk
    simp only [Bool.and_eq_true, decide_eq_true_eq]
    omega
  simp -implicitDefEqProofs (disch := omega) [vd, vn, h1, h2, h3, h4, h5]
  obtain ⟨I, hI⟩ : ∃ I : Nat → St → Prop, I = (fun (i : Nat) (z : St) => z.env 1 = .ptr objs.length 0 0 ∧ z.env 3 = .int .i64 i ∧ z.toks = [] ∧ z.low = objs.length ∧
    Ab.getObj z.objs objs.length 0 = some [v, .int .i64 K] ∧ Old objs z.objs ∧ ∀ j, j < i → colOk cols K j = true) := ⟨_, rfl⟩
  refine .up cols.length I (by rw [hI]; exact ⟨by simp, by simp, rfl, rfl, by simp, Old.ext _ _, fun j hj => absurd hj (by omega)⟩) ?_
  intro i z hi hz
  rw [hI] at hz
  obtain ⟨e1, e3, ht, hlo, hbox, hold, hpre⟩ := hz
  obtain ⟨O, ho⟩ : ∃ O, O = z.objs := ⟨_, rfl⟩
  rw [← ho] at hbox hold
  have ho := ho.symm
  have b1 := hbox
  have b1' := fun X => (show Ab.getObj (O ++ X) objs.length 0 = some [v, .int .i64 K] by rw [getObj_app (getObj_lt hbox)]; exact hbox)
  rcases Nat.lt_or_ge i cols.length with h | h
  case inr =>
    obtain rfl : i = cols.length := by omega
    have hg : chkR cols K = 0 := chk_good (schema_good hh hpre)
    simp -implicitDefEqProofs (disch := omega) [e1, e3, ht, ho, hlo, b1, vd, vn, hg]
  have hOl : objs.length < O.length := getObj_lt hbox
  have hOl2 : ¬ O.length < objs.length := by omega
  obtain ⟨c, hcc⟩ : ∃ c, c = nth cols i := ⟨_, rfl⟩
  have hcl := hsh _ (nth_mem h)
  have ix := vi .i64 i (by omega) (by omega)
  rw [Int.toNat_natCast] at ix
  obtain ⟨g1, -⟩ := col_get (hv.old hold) h
  obtain ⟨nm, k, nl⟩ := c
  rw [← hcc] at g1 hcl
  obtain ⟨dup, hdup⟩ : ∃ dup, dup = (cols.take i).any fun d => decide (strL d.nm = strL nm) := ⟨_, rfl⟩
  have hcol : colOk cols K i = (nameOk (strL nm) && (decide (1 ≤ k) && decide (k ≤ 8)) && !(decide ((i : Int) < K) && nl) && !dup) := by rw [hdup]; unfold colOk; rw [← hcc]
  have bad : colOk cols K i = false → chkR cols K = 60 := fun q => chk_bad (schema_bad h q)
  cases hn : nameOk (strL nm) with
  | false =>
    have hg := bad (by rw [hcol, hn]; rfl)
    simp -implicitDefEqProofs (disch := omega) [e1, e3, ht, ho, hlo, h, ix, b1, b1', vd, vn, c_rName, k_rName, hcl, hOl2, g1, coV, setCells, hn, hg]
  | true =>
  rw [hn, Bool.true_and] at hcol
  by_cases k1 : k < 1
  · have hg := bad (by rw [hcol, decide_eq_false (p := 1 ≤ k) (by omega)]; simp)
    simp -implicitDefEqProofs (disch := omega) [e1, e3, ht, ho, hlo, h, ix, b1, b1', vd, vn, c_rName, k_rName, hcl, hOl2, g1, coV, setCells, hn, k1, hg]
  by_cases k8 : 8 < k
  · have hg := bad (by rw [hcol, decide_eq_false (p := k ≤ 8) (by omega)]; simp)
    simp -implicitDefEqProofs (disch := omega) [e1, e3, ht, ho, hlo, h, ix, b1, b1', vd, vn, c_rName, k_rName, hcl, hOl2, g1, coV, setCells, hn, k1, k8, hg]
  rw [decide_eq_true (p := 1 ≤ k) (by omega), decide_eq_true (p := k ≤ 8) (by omega), Bool.and_true, Bool.true_and] at hcol
  by_cases hN : (i : Int) < K ∧ nl = true
  · obtain ⟨hK, rfl⟩ := hN
    have hg := bad (by rw [hcol, decide_eq_true hK]; rfl)
    simp -implicitDefEqProofs (disch := omega) [e1, e3, ht, ho, hlo, h, ix, b1, b1', vd, vn, c_rName, k_rName, hcl, hOl2, g1, coV, setCells, hn, k1, k8, hK, hg]
  have hcol : colOk cols K i = !dup := by
    rw [hcol]
    have : (decide ((i : Int) < K) && nl) = false := by
      rw [Bool.eq_false_iff]; intro q; simp at q; exact hN q
    rw [this]; rfl
  obtain ⟨O2, hO2⟩ : ∃ O2, O2 = O ++ [.cells (coV ⟨nm, k, nl⟩) 0] := ⟨_, rfl⟩
  have hold2 : Old objs O2 := by rw [hO2]; exact hold.app _
  have b2 : Ab.getObj O2 objs.length 0 = some [v, .int .i64 K] := by rw [hO2]; exact b1' _
  have bx : Ab.getObj O2 O.length 0 = some (coV ⟨nm, k, nl⟩) := by rw [hO2]; simp
  have hd1 : (∀ j, j < i → strL (nth cols j).nm ≠ strL nm) → dup = false := fun q => by
    rw [hdup, List.any_eq_false]
    intro d hd
    obtain ⟨j, hj, e⟩ := List.getElem_of_mem hd
    have hj2 : j < i := by rw [List.length_take] at hj; omega
    have := q j hj2
    rw [List.getElem_take, ← nth_lt (by omega)] at e
    rw [← e]; simpa using this
  have hd2 : ∀ j, j < i → strL (nth cols j).nm = strL nm → dup = true := fun j hj q => by
    rw [hdup, List.any_eq_true]
    exact ⟨nth cols j, by rw [← nth_take hj]; exact nth_mem (by rw [List.length_take]; omega), by simpa using q⟩
  obtain ⟨J, hJ⟩ : ∃ J : Nat → St → Prop, J = (fun (j : Nat) (z : St) => z.env 1 = .ptr objs.length 0 0 ∧ z.env 3 = .int .i64 i ∧ z.env 4 = .ptr O.length 0 0 ∧ z.env 5 = .int .i64 j ∧ z.toks = [] ∧ z.low = objs.length ∧ z.objs = O2 ∧ ∀ m, m < j → strL (nth cols m).nm ≠ strL nm) := ⟨_, rfl⟩
  have w1 : IntKind.i64.wrap ((i : Int) + 1) = (i : Int) + 1 := wrap_small (by omega) (by omega)
  rcases (show ((i : Int) < K ∧ nl = false) ∨ (¬ (i : Int) < K ∧ nl = false) ∨ (¬ (i : Int) < K ∧ nl = true) by
    cases nl
    · by_cases q : (i : Int) < K
      · exact .inl ⟨q, rfl⟩
      · exact .inr (.inl ⟨q, rfl⟩)
    · exact .inr (.inr ⟨fun q => hN ⟨q, rfl⟩, rfl⟩)) with ⟨hK, hnl⟩ | ⟨hK, hnl⟩ | ⟨hK, hnl⟩
  all_goals
    rw [hnl] at g1
    have hO3 : O2 = O ++ [.cells [.str nm, .int .i64 k, .bool nl] 0] := hO2
    rw [hnl] at hO3
    simp -implicitDefEqProofs (disch := omega) [e1, e3, ht, ho, hlo, h, ix, b1, b1', vd, vn, c_rName, k_rName, hcl, hOl2, g1, coV, setCells, hn, k1, k8, hK]
    rw [← hO3]
    refine .up i J (by rw [hJ]; exact ⟨by simp [e1], by simp [e3], by simp, by simp, rfl, rfl, rfl, fun j hj => absurd hj (by omega)⟩) ?_
    intro j z2 hj hz2
    rw [hJ] at hz2
    obtain ⟨e1, e3, e4, e5, ht, hlo, ho, hpre2⟩ := hz2
    rcases Nat.lt_or_ge j i with hji | hji
    case inr =>
      obtain rfl : j = i := by omega
      have hg : colOk cols K j = true := by rw [hcol, hd1 hpre2]; rfl
      simp -implicitDefEqProofs (disch := omega) [e1, e3, e4, e5, ht, ho, hlo, w1, h]
      rw [hI]
      refine ⟨by simp [e1], by simp, rfl, rfl, b2, hold2, fun m hm => ?_⟩
      rcases Nat.lt_or_ge m j with hm2 | hm2
      · exact hpre m hm2
      · obtain rfl : m = j := by omega
        exact hg
    have jx := vi .i64 j (by omega) (by omega)
    rw [Int.toNat_natCast] at jx
    obtain ⟨-, g2, -⟩ := col_get (hv.old hold2) (show j < cols.length by omega)
    by_cases hsm : strL (nth cols j).nm = strL nm
    · have hg := bad (by rw [hcol, hd2 j hji hsm]; rfl)
      simp -implicitDefEqProofs (disch := omega) [e1, e3, e4, e5, ht, ho, hlo, hji, jx, b2, bx, vd, col_f0, g2, coV, str_beq, hsm, hg]
    · have hw : IntKind.i64.wrap ((j : Int) + 1) = (j : Int) + 1 := wrap_small (by omega) (by omega)
      simp -implicitDefEqProofs (disch := omega) [e1, e3, e4, e5, ht, ho, hlo, hji, jx, b2, bx, vd, col_f0, g2, coV, str_beq, hsm, hw]
      rw [hJ]
      refine ⟨by simp [e1], by simp [e3], by simp [e4], by simp, rfl, rfl, rfl, fun m hm => ?_⟩
      rcases Nat.lt_or_ge m j with hm2 | hm2
      · exact hpre2 m hm2
      · obtain rfl : m = j := by omega
        exact hsm)

noncomputable def k_cCheck : Ab.Spec := con3 (ofInt .i64) ofBool some fun k nl v objs => match v with
  | .agg [.bool n, .int .i64 i, a] => match ofIntsR .u8 objs a with
    | some l => bnd l.length 140737488355328 (if i64B i = true ∧ b8 l = true then some (.int .i64 (checkR k nl n i l), none) else none)
    | none => none
  | _ => none
noncomputable def T_cCheck : CallF := withF T_rSchema 40 k_cCheck
theorem T_cCheck_ok : CallOk Tryd.prog T_cCheck := con_of (A := annOf [] [] [] false []) fit T_rSchema_ok (fn := Tryd.f40) (by kernel_rfl) (by kernel_rfl) (by
  intro args objs r h0
  have c_known : ∀ a o, T_rSchema 58 a o = k_known a o := fun _ _ => rfl
  have c_Number : ∀ a o, T_rSchema 59 a o = k_Number a o := fun _ _ => rfl
  have c_ctext : ∀ a o, T_rSchema 60 a o = k_ctext a o := fun _ _ => rfl
  have c_holds : ∀ a o, T_rSchema 61 a o = k_holds a o := fun _ _ => rfl
  obtain ⟨_, _, v, k, nl, _, rfl, hk, hnl, hv, hR⟩ := con3_inv h0
  obtain rfl := ofInt_inv hk
  obtain rfl := ofBool_inv hnl
  cases hv
  split at hR
  case h_2 => cases hR
  rename_i n i a
  split at hR
  case h_2 => cases hR
  rename_i l ha
  obtain ⟨hl, hR⟩ := bnd_inv hR
  split at hR
  case isFalse => cases hR
  rename_i hib
  obtain ⟨hib, h8⟩ := hib
  cases hR
  obtain ⟨a1, a2, a3, a4⟩ := one_ofR ha
  obtain ⟨P, -, vn, -⟩ := bsR ha
  have ha' : ∀ M, ofIntsR .u8 (objs ++ M) a = some l := fun M => ofIntsR_app ha
  refine .go _ rfl rfl ?_
  by_cases hkn : 1 ≤ k ∧ k ≤ 8
  case neg =>
    have hg : checkR k nl n i l = 1 := if_pos (by omega)
    have hkd : knownB k = false := decide_eq_false hkn
    simp -implicitDefEqProofs (disch := omega) [a1, a2, a3, a4, c_known, k_known, hkd, hg]
  have hkd : knownB k = true := decide_eq_true hkn
  obtain ⟨k1, k8⟩ := hkn
  have hg0 : checkR k nl n i l = if n = true then (if nl = true then (if i = 0 ∧ l = [] then 0 else 50) else 51)
      else if k ≤ 6 then (if l = [] then (if holdsR k i = true then 0 else 52) else 50) else if i = 0 then textR k l else 50 := if_neg (by omega)
  have hl0 : ∀ h : ¬ l = [], 0 < l.length := fun h => List.length_pos_iff.2 h
  cases n with
  | true =>
    rw [if_pos rfl] at hg0
    cases nl with
    | false => simp -implicitDefEqProofs (disch := omega) [a1, a2, a3, a4, c_known, k_known, hkd, hg0]
    | true =>
      rw [if_pos rfl] at hg0
      by_cases hi : i = 0
      · subst hi
        by_cases hz : l = []
        · subst hz
          simp -implicitDefEqProofs (disch := omega) [a1, a2, a3, a4, c_known, k_known, hkd, vn, hg0]
        · have := hl0 hz
          simp -implicitDefEqProofs (disch := omega) [a1, a2, a3, a4, c_known, k_known, hkd, vn, hg0, hz, this]
      · have hi' : (i != 0) = true := by simpa using hi
        simp -implicitDefEqProofs (disch := omega) [a1, a2, a3, a4, c_known, k_known, hkd, vn, hg0, hi, hi']
  | false =>
    rw [if_neg (by simp)] at hg0
    by_cases k6 : k ≤ 6
    · rw [if_pos k6] at hg0
      have hnd : numB k = true := decide_eq_true ⟨k1, k6⟩
      by_cases hz : l = []
      · rw [if_pos hz] at hg0
        have hz2 : ¬ 0 < l.length := by rw [hz]; simp
        cases hh : holdsR k i
        · rw [hh, if_neg (by simp)] at hg0
          simp -implicitDefEqProofs (disch := omega) [a1, a2, a3, a4, c_known, k_known, hkd, c_Number, k_Number, hnd, c_holds, k_holds, hib, k1, k6, vn, hg0, hz2, hh]
        · rw [hh, if_pos rfl] at hg0
          simp -implicitDefEqProofs (disch := omega) [a1, a2, a3, a4, c_known, k_known, hkd, c_Number, k_Number, hnd, c_holds, k_holds, hib, k1, k6, vn, hg0, hz2, hh]
      · rw [if_neg hz] at hg0
        have := hl0 hz
        simp -implicitDefEqProofs (disch := omega) [a1, a2, a3, a4, c_known, k_known, hkd, c_Number, k_Number, hnd, vn, hg0, hz, this]
    · rw [if_neg k6] at hg0
      have hnd : numB k = false := decide_eq_false fun q => k6 q.2
      by_cases hi : i = 0
      · subst hi
        rw [if_pos rfl] at hg0
        simp -implicitDefEqProofs (disch := omega) [a1, a2, a3, a4, c_known, k_known, hkd, c_Number, k_Number, hnd, vn, hg0, c_ctext, k_ctext, ha', h8]
      · rw [if_neg hi] at hg0
        have hi' : (i != 0) = true := by simpa using hi
        simp -implicitDefEqProofs (disch := omega) [a1, a2, a3, a4, c_known, k_known, hkd, c_Number, k_Number, hnd, vn, hg0, hi, hi'])

end Go.Proofs.YtiaihiccaoibgaaDoor.B
