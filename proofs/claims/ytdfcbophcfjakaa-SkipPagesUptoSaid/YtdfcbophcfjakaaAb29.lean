import Derived.Test.YtdfcbophcfjakaaAb28
set_option linter.unusedSimpArgs false
set_option linter.unusedVariables false
set_option linter.unusedSectionVars false
/- Rows told or in objects; more rules for pieces by hand; rows that are changed cell by cell. -/
namespace Go.Ab
section
variable {P : Program} {A : Ann} {T : CallF} {f : FuncId} {base : Nat} {c x y : Code} {s s1 s' : St} {Q : Ex → St → Prop}
def SeqWQ (P : Program) (A : Ann) (T : CallF) (f : FuncId) (base : Nat) (y : Code) (Q : Ex → St → Prop) : Ex → St → Prop := fun e s => e.andThen (ToW P A T f base y s Q) (Q e s)
theorem at_seqw_norm : At (SeqWQ P A T f base y Q) .norm s = ToW P A T f base y s Q := rfl
theorem at_seqw_ret : At (SeqWQ P A T f base y Q) .ret s = At Q .ret s := rfl
theorem at_seqw_exit {i : Nat} : At (SeqWQ P A T f base y Q) (.exit i) s = At Q (.exit i) s := rfl
theorem tow_congr (h : s = s') : ToW P A T f base c s Q = ToW P A T f base c s' Q := by rw [h]
theorem ToW.then (h : ToW P A T f base x s (SeqWQ P A T f base y Q)) : ToW P A T f base (.seq x y) s Q := .seq h
theorem ToW.thenT (h : To P A T f base x s (SeqWQ P A T f base y Q)) : ToW P A T f base (.seq x y) s Q := .seq (.of h)
theorem ToW.block {id : Nat} (h : ToW P A T f base x s (BlockQ id Q)) : ToW P A T f base (.block id x) s Q := by
  obtain ⟨e, s', k1, k2⟩ := h
  exact ⟨_, s', .blk k1 rfl, by cases e <;> exact k2⟩
theorem ToW.loop (h : ToW P A T f base x s (fun e s1 => e.andThen (ToW P A T f base (.loop x) s1 Q) (Q e s1))) : ToW P A T f base (.loop x) s Q := by
  obtain ⟨e, s1, h1, h2⟩ := h
  cases e with
  | norm => obtain ⟨e, s', k1, k2⟩ := h2; exact ⟨e, s', .loop_next h1 k1, k2⟩
  | ret => exact ⟨_, _, .loop_out h1 (by simp), h2⟩
  | exit id => exact ⟨_, _, .loop_out h1 (by simp), h2⟩
theorem ToW.up (N : Nat) (I : Nat → St → Prop) (h0 : I 0 s) (hs : ∀ i s, i ≤ N → I i s → ToW P A T f base x s (UpQ I N i Q)) : ToW P A T f base (.loop x) s Q := by
  have : ∀ k i s, i + k = N → I i s → ToW P A T f base (.loop x) s Q := by
    intro k
    induction k with
    | zero =>
      intro i s hi h
      refine ToW.loop ((hs i s (by omega) h).mono fun e s1 q => ?_)
      cases e with
      | norm => exact absurd q.1 (by omega)
      | ret => exact q
      | exit j => exact q
    | succ k ih =>
      intro i s hi h
      refine ToW.loop ((hs i s (by omega) h).mono fun e s1 q => ?_)
      cases e with
      | norm => exact ih (i + 1) s1 (by omega) q.2
      | ret => exact q
      | exit j => exact q
  exact this N 0 s (by omega) h0
end
attribute [simp] at_seqw_norm at_seqw_ret at_seqw_exit
attribute [congr] tow_congr
/-! rows told or in objects -/
def ofIntsR (k : IntKind) (objs : List AO) (v : V) : Option (List Int) := match v with
  | .ref id ver off len 1 => match Ab.getObj objs id ver with | some cs => (ofCellsI k ((cs.drop off).take len)).bind fun l => if len = l.length ∧ off + len ≤ cs.length then some l else none | none => none
  | v => ofInts k v
theorem ofIntsR_inv {k : IntKind} {objs : List AO} {v : V} {l : List Int} (h : ofIntsR k objs v = some l) : ofInts k v = some l ∨ ∃ id ver off cs, v = .ref id ver off l.length 1 ∧ Ab.getObj objs id ver = some cs ∧ (cs.drop off).take l.length = ints k l ∧ off + l.length ≤ cs.length := by
  unfold ofIntsR at h
  split at h
  · split at h
    · rename_i cs hg
      obtain ⟨m, hm, h⟩ := Option.bind_eq_some_iff.1 h
      split at h
      · cases h
        rename_i e
        obtain ⟨rfl, e2⟩ := e
        exact .inr ⟨_, _, _, cs, rfl, hg, ofCellsI_inv hm, e2⟩
      · cases h
    · cases h
  · exact .inl h
theorem row_get {k : IntKind} {cs : List V} {off : Nat} {l : List Int} (h : (cs.drop off).take l.length = ints k l) {i : Nat} (hi : i < l.length) : cs[off + i]? = some (.int k (nth l i)) := by
  have := ints_nth (k := k) hi
  rw [← h, List.getElem?_take_of_lt hi, List.getElem?_drop] at this
  exact this
theorem ofIntsR_of {k : IntKind} {objs : List AO} {v : V} {l : List Int} (h : ofInts k v = some l) : ofIntsR k objs v = some l := by
  unfold ofIntsR
  split
  · cases h
  · exact h
theorem ofIntsR_ref {k : IntKind} {objs : List AO} {l : List Int} {id ver n : Nat} (h : Ab.getObj objs id ver = some (ints k l)) (hn : n = l.length) : ofIntsR k objs (.ref id ver 0 n 1) = some l := by
  have e : List.take n (ints k l) = ints k l := List.take_of_length_le (by simp [hn])
  simp [ofIntsR, h, hn, ofCellsI_ints, e]
theorem ofIntsR_cut {k : IntKind} {objs : List AO} {l : List Int} {id ver a n : Nat} (h : Ab.getObj objs id ver = some (ints k l)) (hn : a + n ≤ l.length) : ofIntsR k objs (.ref id ver a n 1) = some ((l.drop a).take n) := by
  have e : ((ints k l).drop a).take n = ints k ((l.drop a).take n) := by rw [ints_drop, ints_take]
  simp only [ofIntsR, h, e, ofCellsI_ints, Option.bind_some]
  rw [if_pos ⟨by simp; omega, by simp; omega⟩]
/-! a row whose cells are changed one by one -/
def mapP (g : Int → Int) (l : List Int) : Nat → List Int
  | 0 => l
  | i + 1 => (mapP g l i).set i (g (nth (mapP g l i) i))
theorem mapP_len (g : Int → Int) (l : List Int) : ∀ i, (mapP g l i).length = l.length
  | 0 => rfl
  | i + 1 => by simp [mapP, mapP_len g l i]
theorem mapP_eq (g : Int → Int) (l : List Int) : ∀ i, i ≤ l.length → mapP g l i = (l.take i).map g ++ l.drop i
  | 0, _ => by simp [mapP]
  | i + 1, h => by
    have hi : i < l.length := h
    have e := mapP_eq g l i (by omega)
    have hn : nth (mapP g l i) i = nth l i := by
      have : (mapP g l i)[i]? = l[i]? := by
        rw [e, List.getElem?_append_right (by simp; omega)]
        simp; congr 1; omega
      unfold nth; rw [List.getD_eq_getElem?_getD, List.getD_eq_getElem?_getD, this]
    rw [mapP, hn, e, take_nth hi, List.map_append]
    have hl : ((l.take i).map g).length = i := by simp; omega
    rw [List.set_append, if_neg (by omega), hl, Nat.sub_self, List.append_assoc, List.drop_eq_getElem_cons hi]
    rfl
theorem mapP_all (g : Int → Int) (l : List Int) : mapP g l l.length = l.map g := by
  rw [mapP_eq g l _ (Nat.le_refl _)]; simp
theorem set_self {objs : List AO} {id ver : Nat} {cs : List V} (h : Ab.getObj objs id ver = some cs) : objs.set id (.cells cs ver) = objs := by
  unfold Ab.getObj at h
  split at h
  · rename_i c v hg
    split at h
    · rename_i e
      cases h
      subst e
      refine List.ext_getElem? fun k => ?_
      by_cases hk : k = id
      · subst hk
        obtain ⟨hlt, hge⟩ := List.getElem?_eq_some_iff.1 hg
        rw [List.getElem?_set_self hlt, hg]
      · rw [List.getElem?_set_ne (Ne.symm hk)]
    · cases h
  · cases h
theorem ints_set1 {k : IntKind} {l : List Int} {i : Nat} {c : Int} (h : i < l.length) : setCells (ints k l) i [.int k c] = ints k (l.set i c) := by
  unfold setCells ints
  rw [← List.map_take, ← List.map_drop, List.set_eq_take_append_cons_drop, if_pos h]
  simp
theorem getObj_lt {objs : List AO} {i v : Nat} {cs : List V} (h : Ab.getObj objs i v = some cs) : i < objs.length := by
  unfold Ab.getObj at h
  split at h
  · rename_i c v hg; exact (List.getElem?_eq_some_iff.1 hg).1
  · cases h
theorem getObj_set {objs : List AO} {i v : Nat} {cs : List V} (h : i < objs.length) : Ab.getObj (objs.set i (.cells cs v)) i v = some cs := by simp [Ab.getObj, h]
theorem getObj_set_ne {objs : List AO} {i j v : Nat} {o : AO} (h : i ≠ j) : Ab.getObj (objs.set i o) j v = Ab.getObj objs j v := by
  unfold Ab.getObj; rw [List.getElem?_set_ne h]
theorem of_get {α : Type} {cs : List α} {i : Nat} {c : α} (h : cs[i]? = some c) : ∀ h : i < cs.length, cs[i]'h = c := fun q => by
  rw [List.getElem?_eq_getElem q] at h; exact Option.some.inj h
/-! rows that go out as ones that may be written -/
theorem ints_scalar {k : IntKind} {l : List Int} : (ints k l).all scalar = true := by simp [ints, scalar]
theorem ints_thaw {k : IntKind} {l : List Int} {e n : Nat} {th : Bool} : thawable (.lst (.fresh e th) (ints k l) n) = true := ints_scalar
theorem thaw_row {objs : List AO} {k : IntKind} {l : List Int} {e n : Nat} {vs : List V} (h : vs.all scalar = true) : thawAll true objs (.lst (.fresh e false) (ints k l) n :: vs) = .lst (.fresh e (scalarObjs objs)) (ints k l) n :: vs := by
  have h1 : ∀ v ∈ vs, scalar v = true := List.all_eq_true.1 h
  have h2 : vs.all thawable = true := List.all_eq_true.2 fun v hv => by
    have := h1 v hv
    cases v <;> simp_all [thawable, scalar]
  have h3 : vs.map thaw = vs := by
    have h4 : vs.map thaw = vs.map id := List.map_congr_left fun v hv => by
      have := h1 v hv
      cases v <;> first | rfl | (simp [scalar] at this; done)
    rw [h4, List.map_id]
  unfold thawAll
  rw [if_pos rfl]
  cases hs : scalarObjs objs
  · simp
  · simp [ints_thaw, h2, h3, thaw]
theorem thaw_scal {objs : List AO} {vs : List V} (h : vs.all scalar = true) : thawAll true objs vs = vs := by
  have h1 : ∀ v ∈ vs, scalar v = true := List.all_eq_true.1 h
  have h4 : vs.map thaw = vs.map id := List.map_congr_left fun v hv => by
    have := h1 v hv
    cases v <;> first | rfl | (simp [scalar] at this; done)
  unfold thawAll
  rw [if_pos rfl]
  split
  · rw [h4, List.map_id]
  · rfl
theorem thaw_row0 {objs : List AO} {k : IntKind} {l : List Int} {e n : Nat} : thawAll true objs [.lst (.fresh e false) (ints k l) n] = [.lst (.fresh e (scalarObjs objs)) (ints k l) n] := thaw_row rfl
theorem thaw_row1 {objs : List AO} {k : IntKind} {l : List Int} {e n : Nat} {k1 : IntKind} {c : Int} : thawAll true objs [.lst (.fresh e false) (ints k l) n, .int k1 c] = [.lst (.fresh e (scalarObjs objs)) (ints k l) n, .int k1 c] := thaw_row rfl
theorem thaw_nil0 {objs : List AO} : thawAll true objs [.nils] = [.nils] := thaw_scal rfl
theorem thaw_nil1 {objs : List AO} {k1 : IntKind} {c : Int} : thawAll true objs [.nils, .int k1 c] = [.nils, .int k1 c] := thaw_scal rfl
theorem scalarObjs_nil : scalarObjs [] = true := rfl
theorem scalarObjs_cons {cs : List V} {ver : Nat} {objs : List AO} : scalarObjs (.cells cs ver :: objs) = (cs.all scalar && scalarObjs objs) := rfl
theorem scalarObjs_app {a b : List AO} : scalarObjs (a ++ b) = (scalarObjs a && scalarObjs b) := by unfold scalarObjs; rw [List.all_append]
theorem scalarObjs_set {objs : List AO} {i ver : Nat} {cs : List V} (h : scalarObjs objs = true) (hc : cs.all scalar = true) : scalarObjs (objs.set i (.cells cs ver)) = true := by
  unfold scalarObjs at *
  rw [List.all_eq_true] at *
  intro x hx
  rcases List.mem_or_eq_of_mem_set hx with q | rfl
  · exact h x q
  · exact List.all_eq_true.2 hc
attribute [simp] ints_scalar ints_thaw thaw_row0 thaw_row1 thaw_nil0 thaw_nil1 scalarObjs_nil scalarObjs_cons scalarObjs_app
end Go.Ab
