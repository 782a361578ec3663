import Derived.Test.YtdfcbophcfjakaaAb29
set_option linter.unusedSimpArgs false
set_option linter.unusedVariables false
set_option linter.unusedSectionVars false
/- Contracts told by what holds behind the call; rows of bytes held in objects. -/
namespace Go.Ab
abbrev Rs := V × Option (List AO × Nat)
open Classical in
/-- Some result of which R holds. -/
noncomputable def relF (R : List V → List AO → Rs → Prop) : Spec := fun args objs => if h : ∃ r, R args objs r then some (Classical.choose h) else none
theorem relF_inv {R : List V → List AO → Rs → Prop} {args : List V} {objs : List AO} {r : Rs} (h : relF R args objs = some r) : R args objs r := by
  unfold relF at h
  split at h
  · rename_i hx; cases h; exact Classical.choose_spec hx
  · cases h
theorem relF_of {R : List V → List AO → Rs → Prop} {args : List V} {objs : List AO} (h : ∃ r, R args objs r) : ∃ r, relF R args objs = some r ∧ R args objs r := by
  refine ⟨Classical.choose h, ?_, Classical.choose_spec h⟩
  unfold relF; rw [dif_pos h]
/-- An answer under a condition. -/
noncomputable def pre (p : Prop) (x : Option Rs) : Option Rs := @ite _ p (Classical.propDecidable p) x none
theorem pre_pos {p : Prop} {x : Option Rs} (h : p) : pre p x = x := by unfold pre; rw [if_pos h]
theorem pre_inv {p : Prop} {x : Option Rs} {r : Rs} (h : pre p x = some r) : p ∧ x = some r := by
  unfold pre at h
  split at h
  · exact ⟨by assumption, h⟩
  · cases h
section
variable {P : Program} {A : Ann} {T : CallF} {f : FuncId} {fn : Func} {args : List V} {objs : List AO} {c : Code}
def FinP (P : Program) (A : Ann) (f : FuncId) (rs : List ResultVar) (objs : List AO) (Post : Rs → Prop) : Ex → St → Prop := fun e s => (e = .norm ∨ e = .ret) ∧ ∃ r, FinQ.fin P A f rs objs s = some r ∧ Post r
theorem at_finp_norm {rs : List ResultVar} {Post : Rs → Prop} {s : St} : At (FinP P A f rs objs Post) .norm s = ∃ r, FinQ.fin P A f rs objs s = some r ∧ Post r := by simp [At, FinP]
theorem at_finp_ret {rs : List ResultVar} {Post : Rs → Prop} {s : St} : At (FinP P A f rs objs Post) .ret s = ∃ r, FinQ.fin P A f rs objs s = some r ∧ Post r := by simp [At, FinP]
theorem rel_go {Post : List V → List AO → Rs → Prop} (rs : List ResultVar) (hb : fn.body = some c) (hr : fn.results.toList = rs) (h : ToW P A T f (baseOf A f objs.length) c ⟨entryEnv args, [], objs, objs.length⟩ (FinP P A f rs objs (Post args objs))) :
    ∃ r, relF (fun a o r => Post a o r ∧ EndsW P A T f fn a o r) args objs = some r ∧ Post args objs r := by
  obtain ⟨e, s, h1, h2, r, h3, h4⟩ := h
  subst hr
  obtain ⟨r', k1, k2⟩ := relF_of (R := fun a o r => Post a o r ∧ EndsW P A T f fn a o r) (args := args) (objs := objs) ⟨r, h4, c, e, s, hb, h2, h1, h3⟩
  exact ⟨r', k1, k2.1⟩
theorem rel_goT {Post : List V → List AO → Rs → Prop} (rs : List ResultVar) (hb : fn.body = some c) (hr : fn.results.toList = rs) (h : To P A T f (baseOf A f objs.length) c ⟨entryEnv args, [], objs, objs.length⟩ (FinP P A f rs objs (Post args objs))) :
    ∃ r, relF (fun a o r => Post a o r ∧ EndsW P A T f fn a o r) args objs = some r ∧ Post args objs r := rel_go rs hb hr (.of h)
end
attribute [simp] at_finp_norm at_finp_ret
@[simp] theorem baseOf_k {t r : List Nat} {o : List (Nat × List Md)} {m : List Nat} {h q : Bool} {f : FuncId} {n : Nat} : baseOf (annOf t r o true m h q) f n = 0 := rfl
@[simp] theorem baseOf_n {t r : List Nat} {o : List (Nat × List Md)} {m : List Nat} {h q : Bool} {f : FuncId} {n : Nat} : baseOf (annOf t r o false m h q) f n = n := rfl
/-! objects by their places -/
@[simp] theorem getObj_end {objs l : List AO} {v : Nat} : Ab.getObj (objs ++ l) objs.length v = Ab.getObj l 0 v := by unfold Ab.getObj; rw [List.getElem?_append_right (Nat.le_refl _), Nat.sub_self]
@[simp] theorem getObj_add {objs l : List AO} {k v : Nat} : Ab.getObj (objs ++ l) (objs.length + k) v = Ab.getObj l k v := by unfold Ab.getObj; rw [List.getElem?_append_right (Nat.le_add_right _ _), Nat.add_sub_cancel_left]
@[simp] theorem getObj_cons_zero {cs : List V} {ver v : Nat} {l : List AO} : Ab.getObj (.cells cs ver :: l) 0 v = if ver = v then some cs else none := by simp [Ab.getObj]
@[simp] theorem getObj_cons_succ {a : AO} {k v : Nat} {l : List AO} : Ab.getObj (a :: l) (k + 1) v = Ab.getObj l k v := by simp [Ab.getObj]
@[simp] theorem set_end {objs l : List AO} {x : AO} : (objs ++ l).set objs.length x = objs ++ l.set 0 x := by simp
@[simp] theorem set_add {objs l : List AO} {k : Nat} {x : AO} : (objs ++ l).set (objs.length + k) x = objs ++ l.set k x := by simp
/-! rows of bytes that are held in objects, each in its own -/
theorem getObj_app {objs m : List AO} {j v : Nat} (h : j < objs.length) : Ab.getObj (objs ++ m) j v = Ab.getObj objs j v := by simp only [Ab.getObj, List.getElem?_append_left h]
def rowH (objs : List AO) (v : V) (l : List Int) : Prop := (v = .nils ∧ l = []) ∨ ∃ id ver, v = .ref id ver 0 l.length 1 ∧ Ab.getObj objs id ver = some (ints .u8 l)
def idOf : V → Option Nat | .ref id _ _ _ _ => some id | _ => none
structure Held (objs : List AO) (vs : List V) (ls : List (List Int)) : Prop where
  len : vs.length = ls.length
  row : ∀ i, i < ls.length → ∃ v, vs[i]? = some v ∧ rowH objs v (nth ls i)
  apart : ∀ (i j : Nat) (v w : V) (id : Nat), i < j → vs[i]? = some v → vs[j]? = some w → idOf v = some id → idOf w ≠ some id
theorem rowH.bytes {objs : List AO} {v : V} {l : List Int} (h : rowH objs v l) : ofIntsR .u8 objs v = some l := by
  rcases h with ⟨rfl, rfl⟩ | ⟨id, ver, rfl, h⟩
  · rfl
  · exact ofIntsR_ref h rfl
theorem rowH.app {objs m : List AO} {v : V} {l : List Int} (h : rowH objs v l) : rowH (objs ++ m) v l := by
  rcases h with h | ⟨id, ver, rfl, h⟩
  · exact .inl h
  · exact .inr ⟨id, ver, rfl, by rw [getObj_app (getObj_lt h)]; exact h⟩
theorem rowH.same {objs objs' : List AO} {v : V} {l : List Int} (h : rowH objs v l) (hs : ∀ id ver, idOf v = some id → Ab.getObj objs' id ver = Ab.getObj objs id ver) : rowH objs' v l := by
  rcases h with h | ⟨id, ver, rfl, h⟩
  · exact .inl h
  · exact .inr ⟨id, ver, rfl, by rw [hs id ver rfl]; exact h⟩
theorem rowH.one {objs : List AO} {v : V} {l : List Int} (h : rowH objs v l) : demote v = v ∧ oneCell v = true ∧ isDef v = true ∧ cellsOf v = [v] := by
  rcases h with ⟨rfl, rfl⟩ | ⟨id, ver, rfl, h⟩ <;> exact ⟨rfl, rfl, rfl, rfl⟩
theorem rowH.lt {objs : List AO} {v : V} {l : List Int} (h : rowH objs v l) : Ab.noref objs.length v = true := by
  rcases h with ⟨rfl, rfl⟩ | ⟨id, ver, rfl, h⟩
  · rfl
  · have := getObj_lt h; simp [Ab.noref, this]
theorem Held.app {objs m : List AO} {vs : List V} {ls : List (List Int)} (h : Held objs vs ls) : Held (objs ++ m) vs ls :=
  ⟨h.len, fun i hi => by obtain ⟨v, h1, h2⟩ := h.row i hi; exact ⟨v, h1, h2.app⟩, h.apart⟩
theorem Held.same {objs objs' : List AO} {vs : List V} {ls : List (List Int)} (h : Held objs vs ls) (hs : ∀ v id ver, v ∈ vs → idOf v = some id → Ab.getObj objs' id ver = Ab.getObj objs id ver) : Held objs' vs ls :=
  ⟨h.len, fun i hi => by obtain ⟨v, h1, h2⟩ := h.row i hi; exact ⟨v, h1, h2.same fun id ver e => hs v id ver (List.mem_of_getElem? h1) e⟩, h.apart⟩
theorem Held.nil {objs : List AO} : Held objs [] [] := ⟨rfl, fun i h => by simp at h, fun i j v w id _ h => by simp at h⟩
/-- One row more, in an object behind all. -/
theorem Held.snoc {objs : List AO} {vs : List V} {ls : List (List Int)} {v : V} {l : List Int} (h : Held objs vs ls) (hv : rowH objs v l) (hd : ∀ u id, u ∈ vs → idOf u = some id → idOf v ≠ some id) : Held objs (vs ++ [v]) (ls ++ [l]) := by
  refine ⟨by simp [h.len], fun i hi => ?_, fun i j a b id hij ha hb hid => ?_⟩
  · rw [List.length_append, List.length_singleton] at hi
    rcases Nat.lt_or_ge i ls.length with q | q
    · obtain ⟨u, h1, h2⟩ := h.row i q
      refine ⟨u, by rw [List.getElem?_append_left (by rw [h.len]; exact q)]; exact h1, ?_⟩
      have e : nth (ls ++ [l]) i = nth ls i := by unfold nth; rw [List.getD_eq_getElem?_getD, List.getD_eq_getElem?_getD, List.getElem?_append_left q]
      rw [e]; exact h2
    · obtain rfl : i = ls.length := by omega
      refine ⟨v, by rw [← h.len]; simp, ?_⟩
      have e : nth (ls ++ [l]) ls.length = l := by unfold nth; simp
      rw [e]; exact hv
  · rcases Nat.lt_or_ge j vs.length with q | q
    · rw [List.getElem?_append_left q] at hb
      rw [List.getElem?_append_left (by omega)] at ha
      exact h.apart i j a b id hij ha hb hid
    · have hj : j = vs.length := by
        rcases Nat.lt_or_ge j (vs ++ [v]).length with z | z
        · rw [List.length_append, List.length_singleton] at z; omega
        · rw [List.getElem?_eq_none z] at hb; cases hb
      subst hj
      rw [List.getElem?_append_right (Nat.le_refl _), Nat.sub_self] at hb
      cases hb
      rw [List.getElem?_append_left hij] at ha
      exact hd a id (List.mem_of_getElem? ha) hid
theorem Sl.inj {v : V} {vs ws : List V} {n m : Nat} (h : Sl v vs n) (k : Sl v ws m) : vs = ws ∧ n = m := by
  rcases h with rfl | ⟨rfl, rfl, rfl⟩ <;> rcases k with h | ⟨h, rfl, rfl⟩ <;> cases h <;> exact ⟨rfl, rfl⟩
theorem ints_inj {k : IntKind} {l m : List Int} (h : ints k l = ints k m) : l = m := by
  have := congrArg (ofCellsI k) h
  rw [ofCellsI_ints, ofCellsI_ints] at this
  exact Option.some.inj this
theorem rowH.inj {objs : List AO} {v : V} {l m : List Int} (h : rowH objs v l) (k : rowH objs v m) : l = m := by
  have h1 := h.bytes
  rw [k.bytes] at h1
  exact (Option.some.inj h1).symm
theorem Held.inj {objs : List AO} {vs : List V} {ls ms : List (List Int)} (h : Held objs vs ls) (k : Held objs vs ms) : ls = ms := by
  have hl : ls.length = ms.length := h.len.symm.trans k.len
  refine ext_nth hl fun i hi => ?_
  obtain ⟨v, h1, h2⟩ := h.row i hi
  obtain ⟨w, k1, k2⟩ := k.row i (by omega)
  rw [h1] at k1; cases k1
  exact h2.inj k2
/-- The rows ahead of i are changed. -/
def spoilUp (g : Int → Int) (ls : List (List Int)) (i : Nat) : List (List Int) := (ls.take i).map (·.map g) ++ ls.drop i
theorem spoilUp_zero {g : Int → Int} {ls : List (List Int)} : spoilUp g ls 0 = ls := by simp [spoilUp]
theorem spoilUp_all {g : Int → Int} {ls : List (List Int)} : spoilUp g ls ls.length = ls.map (·.map g) := by simp [spoilUp]
theorem spoilUp_len {g : Int → Int} {ls : List (List Int)} {i : Nat} (h : i ≤ ls.length) : (spoilUp g ls i).length = ls.length := by simp [spoilUp]; omega
theorem spoilUp_lt {g : Int → Int} {ls : List (List Int)} {i j : Nat} (h : j < i) (hi : i ≤ ls.length) : nth (spoilUp g ls i) j = (nth ls j).map g := by
  unfold spoilUp nth
  rw [List.getD_eq_getElem?_getD, List.getElem?_append_left (by simp; omega), List.getElem?_map, List.getElem?_take_of_lt h, List.getD_eq_getElem?_getD, List.getElem?_eq_getElem (show j < ls.length by omega)]
  rfl
theorem spoilUp_ge {g : Int → Int} {ls : List (List Int)} {i j : Nat} (h : i ≤ j) (hi : i ≤ ls.length) : nth (spoilUp g ls i) j = nth ls j := by
  unfold spoilUp nth
  rw [List.getD_eq_getElem?_getD, List.getElem?_append_right (by simp; omega), List.getD_eq_getElem?_getD]
  congr 1
  simp only [List.length_map, List.length_take, List.getElem?_drop]
  congr 1; omega
/-- One row is changed: the others stand. -/
theorem Held.spoil {g : Int → Int} {objs : List AO} {vs : List V} {ls : List (List Int)} {i id ver n : Nat} (h : Held objs vs (spoilUp g ls i)) (hi : i < ls.length) (hv : vs[i]? = some (.ref id ver 0 n 1)) :
    Held (objs.set id (.cells (ints .u8 ((nth ls i).map g)) ver)) vs (spoilUp g ls (i + 1)) := by
  have hl := spoilUp_len (g := g) (ls := ls) (i := i) (by omega)
  have hl1 := spoilUp_len (g := g) (ls := ls) (i := i + 1) (by omega)
  obtain ⟨u, u1, u2⟩ := h.row i (by omega)
  rw [hv] at u1; cases u1
  rw [spoilUp_ge (Nat.le_refl i) (by omega)] at u2
  obtain ⟨hn, hgo⟩ : n = (nth ls i).length ∧ Ab.getObj objs id ver = some (ints .u8 (nth ls i)) := by
    rcases u2 with ⟨q, -⟩ | ⟨id', ver', q, hq⟩
    · cases q
    · cases q; exact ⟨rfl, hq⟩
  have hid := getObj_lt hgo
  refine ⟨by rw [h.len, hl, hl1], fun j hj => ?_, h.apart⟩
  rw [hl1] at hj
  obtain ⟨w, w1, w2⟩ := h.row j (by omega)
  refine ⟨w, w1, ?_⟩
  by_cases hij : j = i
  · subst hij
    rw [hv] at w1; cases w1
    rw [spoilUp_lt (Nat.lt_succ_self j) (by omega)]
    exact .inr ⟨id, ver, by rw [hn, List.length_map], getObj_set hid⟩
  · have e : nth (spoilUp g ls (i + 1)) j = nth (spoilUp g ls i) j := by
      rcases Nat.lt_or_ge j i with q | q
      · rw [spoilUp_lt (by omega) (by omega), spoilUp_lt q (by omega)]
      · rw [spoilUp_ge (by omega) (by omega), spoilUp_ge q (by omega)]
    rw [e]
    refine w2.same fun id' ver' hid' => getObj_set_ne (fun q => ?_)
    subst q
    rcases Nat.lt_or_ge j i with q | q
    · exact h.apart j i _ _ id q w1 hv hid' rfl
    · exact h.apart i j _ _ id (by omega) hv w1 rfl hid'
theorem Held.spoil_nil {g : Int → Int} {objs : List AO} {vs : List V} {ls : List (List Int)} {i : Nat} (h : Held objs vs (spoilUp g ls i)) (hi : i < ls.length) (hv : nth ls i = []) : Held objs vs (spoilUp g ls (i + 1)) := by
  have e : spoilUp g ls (i + 1) = spoilUp g ls i := by
    unfold spoilUp
    rw [take_nth hi, List.map_append, hv, List.append_assoc]
    congr 1
    rw [List.drop_eq_getElem_cons hi]
    have : ls[i] = [] := by rw [← hv]; unfold nth; rw [List.getD_eq_getElem?_getD, List.getElem?_eq_getElem hi]; rfl
    rw [this]; rfl
  rw [e]; exact h
/-- What is left of the objects where rows were changed. -/
def Spoiled (g : Int → Int) (objs : List AO) (vs : List V) (ls : List (List Int)) (objs' : List AO) : Prop :=
  objs'.length = objs.length ∧ Held objs' vs (ls.map (·.map g)) ∧ ∀ id ver, (∀ v, v ∈ vs → idOf v ≠ some id) → Ab.getObj objs' id ver = Ab.getObj objs id ver
end Go.Ab
