import Derived.Test.YtdfcbophcfjakaaAb32
set_option linter.unusedSimpArgs false
set_option linter.unusedVariables false
set_option linter.unusedSectionVars false
/- Rows of records, told or in objects. -/
namespace Go.Ab
/-- A slice whose cells are these: told, nil, or a part of an object. -/
def RowV (objs : List AO) (e : Nat) (v : V) (cs : List V) (len : Nat) : Prop :=
  cs.length = len * e ∧ (Sl v cs len ∨ ∃ id ver off os, v = .ref id ver off len e ∧ Ab.getObj objs id ver = some os ∧ (os.drop off).take (len * e) = cs ∧ off + len * e ≤ os.length)
/-- The pointer to one of its cells. -/
def ptAt (v : V) (cs : List V) (j : Nat) : V := match v with | .ref id ver off _ _ => .ptr id ver (off + j) | _ => .fptr cs j
section
variable {P : Program} {objs : List AO} {e n : Nat} {v : V} {cs : List V} {len : Nat} {t el : TypeId}
theorem RowV.of (h : Sl v cs len) (hl : cs.length = len * e) : RowV objs e v cs len := ⟨hl, .inl h⟩
theorem RowV.length_eq (h : RowV objs e v cs len) : cs.length = len * e := h.1
theorem RowV.dem (h : RowV objs e v cs len) : demote v = v := by
  rcases h.2 with h | ⟨id, ver, off, os, rfl, -⟩
  · exact h.dem
  · rfl
theorem RowV.nt (h : RowV objs e v cs len) : ntup v = some v := by
  rcases h.2 with (rfl | ⟨rfl, -⟩) | ⟨id, ver, off, os, rfl, -⟩ <;> rfl
theorem RowV.one (h : RowV objs e v cs len) : oneCell v = true := by
  rcases h.2 with h | ⟨id, ver, off, os, rfl, -⟩
  · exact h.one
  · rfl
theorem RowV.isDef (h : RowV objs e v cs len) : Ab.isDef v = true := by
  rcases h.2 with h | ⟨id, ver, off, os, rfl, -⟩
  · exact h.isDef
  · rfl
theorem RowV.cells (h : RowV objs e v cs len) : cellsOf v = [v] := by
  rcases h.2 with h | ⟨id, ver, off, os, rfl, -⟩
  · exact h.cells
  · rfl
theorem RowV.size (h : RowV objs e v cs len) (hu : P.underlying t = some (.slice el)) : lenV P t v = some (.int .i64 len) := by
  rcases h.2 with h | ⟨id, ver, off, os, rfl, -⟩
  · exact h.size hu
  · simp [lenV, hu]
theorem RowV.idx (h : RowV objs e v cs len) (hu : P.underlying t = some (.slice el)) (hz : sizeOf? P el = some e) (k : IntKind) (i : Int) (h0 : 0 ≤ i) (h1 : i < len) : indexV P t v (.int k i) = some (ptAt v cs (i.toNat * e)) := by
  rcases h.2 with h | ⟨id, ver, off, os, rfl, -⟩
  · have := h.idx hu hz k i h0 h1
    rw [this]
    rcases h with rfl | ⟨rfl, -, rfl⟩ <;> rfl
  · simp [indexV, hu, hz, h0, h1, ptAt]
theorem RowV.obj {id ver off l e' : Nat} (h : RowV objs e (.ref id ver off l e') cs len) : ∃ os, Ab.getObj objs id ver = some os ∧ (os.drop off).take (len * e) = cs ∧ off + len * e ≤ os.length := by
  rcases h.2 with (h | ⟨h, -⟩) | ⟨id, ver, off, os, h, h2, h3, h4⟩
  · cases h
  · cases h
  · cases h; exact ⟨os, h2, h3, h4⟩
theorem RowV.get (h : RowV objs e v cs len) (hg : ∀ cs off, getV P t cs off = cs[off]?) {j : Nat} {x : V} (hx : cs[j]? = some x) : loadV P t objs (ptAt v cs j) = some (demote x) := by
  rcases h.2 with h | ⟨id, ver, off, os, rfl, h2, h3, h4⟩
  · have : ptAt v cs j = .fptr cs j := by rcases h with rfl | ⟨rfl, -⟩ <;> rfl
    simp [this, loadV, hg, hx]
  · have hj : j < len * e := by
      rcases Nat.lt_or_ge j (len * e) with q | q
      · exact q
      · rw [List.getElem?_eq_none (by have := h.1; omega)] at hx; cases hx
    rw [← h3, List.getElem?_take_of_lt hj, List.getElem?_drop] at hx
    simp [ptAt, loadV, h2, hg, hx]
theorem RowV.agg (h : RowV objs e v cs len) (hg : ∀ cs off, getV P t cs off = if off + n ≤ cs.length then some (.agg ((cs.drop off).take n)) else none) {j : Nat} (hj : j + n ≤ cs.length) : loadV P t objs (ptAt v cs j) = some (.agg ((cs.drop j).take n)) := by
  rcases h.2 with h | ⟨id, ver, off, os, rfl, h2, h3, h4⟩
  · have : ptAt v cs j = .fptr cs j := by rcases h with rfl | ⟨rfl, -⟩ <;> rfl
    simp [this, loadV, hg, hj, demote]
  · have hl := h.1
    have e1 : (os.drop (off + j)).take n = (cs.drop j).take n := by
      rw [← h3, List.drop_take, List.drop_drop, List.take_take, Nat.min_eq_left (by omega)]
    have hf : off + j + n ≤ os.length := by omega
    simp [ptAt, loadV, h2, hg, hf, e1, demote]
theorem RowV.src (h : RowV objs e v cs len) (h1 : cs.all oneCell = true) (e' : TypeId) : srcOf (.slice e') objs e v = some cs := by
  rcases h.2 with q | ⟨id, ver, off, os, rfl, h2, h3, h4⟩
  · exact q.src h.1 h1 objs e'
  · simp only [srcOf, rowOf, if_true, h2]
    rw [if_pos h4, h3]
    simp only
    rw [if_pos h1]
theorem RowV.app (h : RowV objs e v cs len) (m : List AO) : RowV (objs ++ m) e v cs len := by
  rcases h.2 with q | ⟨id, ver, off, os, rfl, h2, h3, h4⟩
  · exact ⟨h.1, .inl q⟩
  · exact ⟨h.1, .inr ⟨id, ver, off, os, rfl, by rw [getObj_app (getObj_lt h2)]; exact h2, h3, h4⟩⟩
theorem RowV.same {objs' : List AO} (h : RowV objs e v cs len) (hs : ∀ id ver os, idOf v = some id → Ab.getObj objs id ver = some os → Ab.getObj objs' id ver = some os) : RowV objs' e v cs len := by
  rcases h.2 with q | ⟨id, ver, off, os, rfl, h2, h3, h4⟩
  · exact ⟨h.1, .inl q⟩
  · exact ⟨h.1, .inr ⟨id, ver, off, os, rfl, hs id ver os rfl h2, h3, h4⟩⟩
theorem RowV.noref (h : RowV objs e v cs len) {b : Nat} (hb : objs.length ≤ b) (hn : norefs b cs = true) : Ab.noref b v = true := by
  rcases h.2 with q | ⟨id, ver, off, os, rfl, h2, h3, h4⟩
  · exact q.noref hn
  · have := getObj_lt h2; simp [Ab.noref]; omega
theorem RowV.cut (h : RowV objs e v cs len) (hu : P.underlying t = some (.slice el)) (hz : sizeOf? P el = some e) (lo hi : Option V) (a b : Nat) (ha : boundV lo 0 = some a) (hb : boundV hi len = some b) (hab : a ≤ b) (hl : b ≤ len) :
    ∃ w, (∀ O, cutV P t O v lo hi none = some w) ∧ RowV objs e w ((cs.take (b * e)).drop (a * e)) (b - a) := by
  have hle : ((cs.take (b * e)).drop (a * e)).length = (b - a) * e := by
    have h1 := Nat.mul_le_mul_right e hl
    rw [List.length_drop, List.length_take, h.1, Nat.min_eq_left h1, Nat.sub_mul]
  rcases h.2 with (rfl | ⟨rfl, rfl, rfl⟩) | ⟨id, ver, off, os, rfl, h2, h3, h4⟩
  · exact ⟨_, fun O => by simp [-boundV, cutV, sliceV, hu, hz, ha, hb, hab, hl], hle, .inl (.inl rfl)⟩
  · obtain rfl : b = 0 := by omega
    obtain rfl : a = 0 := by omega
    exact ⟨.nils, fun O => by simp [-boundV, cutV, sliceV, hu, hz, ha, hb], by simp, .inl (.inr ⟨rfl, by simp, rfl⟩)⟩
  · refine ⟨.ref id ver (off + a * e) (b - a) e, fun O => by simp [-boundV, cutV, sliceV, hu, hz, ha, hb, hab, hl], hle, .inr ⟨id, ver, off + a * e, os, rfl, h2, ?_, ?_⟩⟩
    · rw [← h3, List.take_take, List.drop_take, List.drop_drop]
      have h1 := Nat.mul_le_mul_right e hl
      rw [Nat.min_eq_left h1, Nat.sub_mul]
    · have h1 := Nat.mul_le_mul_right e hl
      have h5 := Nat.mul_le_mul_right e hab
      rw [Nat.sub_mul]; omega
end
/-! decoders -/
def recR {α : Type} (d : List V → Option α) (e : Nat) (objs : List AO) (v : V) : Option (List α) := match v with
  | .ref id ver off len e' => if e = e' then match Ab.getObj objs id ver with | some os => if off + len * e ≤ os.length then ofRecs d e len ((os.drop off).take (len * e)) else none | none => none else none
  | v => ofRecL d e v
section
variable {α : Type} [Inhabited α] {f : α → List V} {n : Nat} {d : List V → Option α} {objs : List AO} {v : V} {l : List α}
theorem recR_inv (hf : ∀ a, (f a).length = n) (hd : ∀ x a, d x = some a → x = f a) (h : recR d n objs v = some l) : RowV objs n v (flatV f l) l.length := by
  refine ⟨flatV_len hf l, ?_⟩
  unfold recR at h
  split at h
  · split at h
    · rename_i e
      subst e
      split at h
      · rename_i os hg
        split at h
        · rename_i hfit
          obtain ⟨g1, g2⟩ := ofRecs_inv hf hd _ _ _ h
          rw [g2] at g1 hfit ⊢
          exact .inr ⟨_, _, _, os, rfl, hg, g1, hfit⟩
        · cases h
      · cases h
    · cases h
  · exact .inl (ofRecL_inv hf hd h)
theorem recR_lst (hf : ∀ a, (f a).length = n) (hd : ∀ a ∈ l, d (f a) = some a) : recR d n objs (.lst .frozen (flatV f l) l.length) = some l := by
  show ofRecs d n l.length (flatV f l) = some l
  induction l with
  | nil => rfl
  | cons a l ih =>
    have h := hf a
    rw [List.length_cons, flatV_cons]
    unfold ofRecs
    rw [List.take_append_of_le_length (by omega), List.take_of_length_le (by omega), hd a (by simp), List.drop_append_of_le_length (by omega), List.drop_of_length_le (by omega), List.nil_append, ih fun a ha => hd a (by simp [ha])]
    rfl
theorem recR_nil : recR d n objs .nils = some [] := rfl
/-- Decoded again, where its elements are. -/
theorem RowV.rec {objs' : List AO} (hf : ∀ a, (f a).length = n) (hd : ∀ a ∈ l, d (f a) = some a) (h : RowV objs' n v (flatV f l) l.length) : recR d n objs' v = some l := by
  have key : ofRecs d n l.length (flatV f l) = some l := recR_lst (objs := []) hf hd
  rcases h.2 with (rfl | ⟨rfl, hn, h0⟩) | ⟨id, ver, off, os, rfl, h2, h3, h4⟩
  · exact key
  · have := List.eq_nil_of_length_eq_zero h0
    subst this; rfl
  · simp only [recR, if_true, h2]
    rw [if_pos h4, h3]; exact key
theorem recR_mem (hf : ∀ a, (f a).length = n) (hd : ∀ x a, d x = some a → x = f a) (h : recR d n objs v = some l) : ∀ a ∈ l, d (f a) = some a := by
  have key : ∀ (len : Nat) (cs : List V) (l : List α), ofRecs d n len cs = some l → ∀ a ∈ l, d (f a) = some a := by
    intro len
    induction len with
    | zero =>
      intro cs l h
      unfold ofRecs at h
      split at h
      · cases h; simp
      · cases h
    | succ len ih =>
      intro cs l h
      unfold ofRecs at h
      obtain ⟨a, ha, h⟩ := Option.bind_eq_some_iff.1 h
      obtain ⟨m, hm, rfl⟩ := Option.map_eq_some_iff.1 h
      intro b hb
      rcases List.mem_cons.1 hb with rfl | hb
      · rw [← hd _ _ ha]; exact ha
      · exact ih _ _ hm b hb
  unfold recR at h
  split at h
  · split at h
    · rename_i e
      subst e
      split at h
      · split at h
        · exact key _ _ _ h
        · cases h
      · cases h
    · cases h
  · unfold ofRecL at h
    split at h
    · cases h; simp
    · exact key _ _ _ h
    · cases h
end
@[simp] theorem pre_true {x : Option Rs} : pre True x = x := pre_pos trivial
/-! the objects of before -/
def Old (objs O : List AO) : Prop := objs.length ≤ O.length ∧ ∀ id ver, id < objs.length → Ab.getObj O id ver = Ab.getObj objs id ver
theorem Old.refl (objs : List AO) : Old objs objs := ⟨Nat.le_refl _, fun _ _ _ => rfl⟩
theorem Old.app {objs O : List AO} (h : Old objs O) (X : List AO) : Old objs (O ++ X) := ⟨by rw [List.length_append]; have := h.1; omega, fun id ver hi => by rw [getObj_app (by have := h.1; omega)]; exact h.2 id ver hi⟩
theorem Old.set {objs O : List AO} (h : Old objs O) {i : Nat} {x : AO} (hi : objs.length ≤ i) : Old objs (O.set i x) := ⟨by rw [List.length_set]; exact h.1, fun id ver hd => by rw [getObj_set_ne (by omega)]; exact h.2 id ver hd⟩
theorem Old.trans {a b c : List AO} (h : Old a b) (k : Old b c) : Old a c := ⟨Nat.le_trans h.1 k.1, fun id ver hi => (k.2 id ver (by have := h.1; omega)).trans (h.2 id ver hi)⟩
theorem Old.ext (objs X : List AO) : Old objs (objs ++ X) := (Old.refl objs).app X
theorem RowV.old {objs O : List AO} {e : Nat} {v : V} {cs : List V} {len : Nat} (h : RowV objs e v cs len) (ho : Old objs O) : RowV O e v cs len := h.same fun id ver os _ hg => by rw [ho.2 id ver (getObj_lt hg)]; exact hg
theorem ofIntsR_old {objs O : List AO} {k : IntKind} {v : V} {l : List Int} (h : ofIntsR k objs v = some l) (ho : Old objs O) : ofIntsR k O v = some l := by
  rcases ofIntsR_inv h with h | ⟨id, ver, off, cs, rfl, hg, hrow, hfit⟩
  · exact ofIntsR_of h
  · have hg2 := ho.2 id ver (getObj_lt hg)
    rw [hg] at hg2
    simp only [ofIntsR, hg2, hrow, ofCellsI_ints, Option.bind_some]
    rw [if_pos ⟨trivial, hfit⟩]
@[simp] theorem lt_add_f (n k : Nat) : (n + k < n) ↔ False := ⟨fun h => by omega, False.elim⟩
/-! objects and maps behind others -/
@[simp] theorem getObj_cons_succ2 {a b : AO} {k v : Nat} {l : List AO} : Ab.getObj (a :: b :: l) (k + 2) v = Ab.getObj l k v := by simp [Ab.getObj]
@[simp] theorem getMap_cons_succ2 {a b : AO} {k : Nat} {l : List AO} : getMap (a :: b :: l) (k + 2) = getMap l k := by simp [getMap]
end Go.Ab
