import Derived.Test.YtdfcbophcfjakaaAb23
set_option linter.unusedSimpArgs false
set_option linter.unusedVariables false
set_option linter.unusedSectionVars false
/- Rows of records: each element some cells, one behind the other. -/
namespace Go.Ab
section
variable {α : Type} [Inhabited α] {f : α → List V} {n : Nat}
def flatV (f : α → List V) (l : List α) : List V := l.flatMap f
theorem flatV_nil : flatV f [] = [] := rfl
theorem flatV_cons {a : α} {l : List α} : flatV f (a :: l) = f a ++ flatV f l := by simp [flatV]
theorem flatV_app {l m : List α} : flatV f l ++ flatV f m = flatV f (l ++ m) := by simp [flatV]
theorem flatV_snoc {l : List α} {a : α} : flatV f l ++ f a = flatV f (l ++ [a]) := by simp [flatV]
theorem flatV_one {a : α} : flatV f [a] = f a := by simp [flatV]
theorem flatV_len (hf : ∀ a, (f a).length = n) (l : List α) : (flatV f l).length = l.length * n := by
  induction l with
  | nil => simp [flatV]
  | cons a l ih => rw [flatV_cons, List.length_append, hf, ih, List.length_cons, Nat.succ_mul]; omega
theorem flatV_drop (hf : ∀ a, (f a).length = n) : ∀ (l : List α) (i : Nat), (flatV f l).drop (i * n) = flatV f (l.drop i)
  | [], i => by simp [flatV]
  | a :: l, 0 => by simp
  | a :: l, i + 1 => by
    rw [flatV_cons, List.drop_succ_cons, ← flatV_drop hf l i]
    have : (i + 1) * n = (f a).length + i * n := by rw [hf, Nat.succ_mul]; omega
    rw [this, ← List.drop_drop, List.drop_left]
theorem flatV_take (hf : ∀ a, (f a).length = n) : ∀ (l : List α) (i : Nat), (flatV f l).take (i * n) = flatV f (l.take i)
  | [], i => by simp [flatV]
  | a :: l, 0 => by simp [flatV]
  | a :: l, i + 1 => by
    rw [flatV_cons, List.take_succ_cons, flatV_cons, ← flatV_take hf l i]
    have : (i + 1) * n = (f a).length + i * n := by rw [hf, Nat.succ_mul]; omega
    rw [this, List.take_length_add_append]
theorem flatV_at (hf : ∀ a, (f a).length = n) {l : List α} {i : Nat} (h : i < l.length) : ((flatV f l).drop (i * n)).take n = f (nth l i) := by
  rw [flatV_drop hf, drop_nth h, flatV_cons]
  have := hf (nth l i)
  rw [List.take_append_of_le_length (by omega), List.take_of_length_le (by omega)]
theorem flatV_get (hf : ∀ a, (f a).length = n) {l : List α} {i j : Nat} (h : i < l.length) (hj : j < n) : (flatV f l)[i * n + j]? = (f (nth l i))[j]? := by
  rw [← flatV_at hf h, List.getElem?_take_of_lt hj, List.getElem?_drop]
theorem flatV_fit (hf : ∀ a, (f a).length = n) {l : List α} {i : Nat} (h : i < l.length) : i * n + n ≤ (flatV f l).length := by
  rw [flatV_len hf]
  have := Nat.mul_le_mul_right n (show i + 1 ≤ l.length from h)
  rw [Nat.succ_mul] at this; exact this
/-- A part of a record is written. -/
theorem flatV_set (hf : ∀ a, (f a).length = n) {l : List α} {i j : Nat} (h : i < l.length) {a : α} {vs : List V} (hj : j + vs.length ≤ n) (ha : f a = setCells (f (nth l i)) j vs) : setCells (flatV f l) (i * n + j) vs = flatV f (l.set i a) := by
  have e : l = l.take i ++ nth l i :: l.drop (i + 1) := by rw [← drop_nth h, List.take_append_drop]
  have e2 : l.set i a = l.take i ++ a :: l.drop (i + 1) := by rw [List.set_eq_take_append_cons_drop, if_pos h]
  have hl : (flatV f (l.take i)).length = i * n := by rw [flatV_len hf, List.length_take, Nat.min_eq_left (by omega)]
  have h0 := hf (nth l i)
  rw [e2, ← flatV_app, flatV_cons, ha]
  conv => lhs; rw [e, ← flatV_app, flatV_cons]
  unfold setCells
  rw [← hl, List.take_length_add_append, Nat.add_assoc, List.drop_length_add_append, List.take_append_of_le_length (by omega), List.drop_append_of_le_length (by omega)]
  simp
/-! decoders -/
def ofRecs (d : List V → Option α) (n : Nat) : Nat → List V → Option (List α)
  | 0, cs => if cs = [] then some [] else none
  | len + 1, cs => (d (cs.take n)).bind fun a => (ofRecs d n len (cs.drop n)).map (a :: ·)
def ofRecL (d : List V → Option α) (n : Nat) : V → Option (List α)
  | .nils => some []
  | .lst .frozen cs len => ofRecs d n len cs
  | _ => none
theorem ofRecs_inv {d : List V → Option α} (hf : ∀ a, (f a).length = n) (hd : ∀ x a, d x = some a → x = f a) : ∀ (len : Nat) (cs : List V) (l : List α), ofRecs d n len cs = some l → cs = flatV f l ∧ len = l.length
  | 0, cs, l, h => by
    unfold ofRecs at h
    split at h
    · rename_i e; cases h; exact ⟨by rw [e]; rfl, rfl⟩
    · cases h
  | len + 1, cs, l, h => by
    unfold ofRecs at h
    obtain ⟨a, ha, h⟩ := Option.bind_eq_some_iff.1 h
    obtain ⟨m, hm, rfl⟩ := Option.map_eq_some_iff.1 h
    obtain ⟨g1, g2⟩ := ofRecs_inv hf hd len _ m hm
    refine ⟨?_, by simp [g2]⟩
    rw [flatV_cons, ← g1, ← hd _ _ ha, List.take_append_drop]
theorem ofRecs_flat {d : List V → Option α} (hf : ∀ a, (f a).length = n) (hd : ∀ a, d (f a) = some a) : ∀ l : List α, ofRecs d n l.length (flatV f l) = some l
  | [] => rfl
  | a :: l => by
    have h := hf a
    rw [List.length_cons, flatV_cons]
    unfold ofRecs
    rw [List.take_append_of_le_length (by omega), List.take_of_length_le (by omega), hd, List.drop_append_of_le_length (by omega), List.drop_of_length_le (by omega), List.nil_append, ofRecs_flat hf hd l]
    rfl
theorem ofRecL_inv {d : List V → Option α} (hf : ∀ a, (f a).length = n) (hd : ∀ x a, d x = some a → x = f a) {v : V} {l : List α} (h : ofRecL d n v = some l) : Sl v (flatV f l) l.length := by
  unfold ofRecL at h
  split at h
  · cases h; exact .inr ⟨rfl, rfl, rfl⟩
  · obtain ⟨g1, g2⟩ := ofRecs_inv hf hd _ _ _ h
    exact .inl (by rw [g1, g2])
  · cases h
theorem ofRecL_lst {d : List V → Option α} (hf : ∀ a, (f a).length = n) (hd : ∀ a, d (f a) = some a) {l : List α} {m : Nat} (h : m = l.length) : ofRecL d n (.lst .frozen (flatV f l) m) = some l := by
  subst h; exact ofRecs_flat hf hd l
theorem ofRecL_nil {d : List V → Option α} : ofRecL d n .nils = some [] := rfl
end
section
variable {P : Program} {D M : Nat} {α : Type} [Inhabited α]
/-- A slice of records that comes in. -/
theorem shp_recs {d : List V → Option α} {R : α → Prop} {n m : Nat} {t e : TypeId} {v : V} {ls : List TypeId} (hu : P.underlying t = some (.slice e)) (hls : leaves P D e = ls) (hn : ls.length = m)
    (hd : ∀ (k : Nat) (us : List V), us.length = m → (∀ (j : Nat) (u : V) (s : TypeId), us[j]? = some u → ls[j]? = some s → Shp P D M k s u) → ∃ a, d us = some a ∧ R a) (h : Shp P D M n t v) :
    ∃ l, ofRecL d m v = some l ∧ (∀ a ∈ l, R a) ∧ l.length * P.bytesOf e ≤ 140737488351232 ∧ (M = 0 ∨ l.length ≤ M) := by
  cases n with
  | zero => exact h.elim
  | succ k =>
    rw [Shp, hu] at h
    simp only [hls, hn] at h
    rcases h with rfl | ⟨ds, len, rfl, h1, h2, h3, h4⟩
    · refine ⟨[], rfl, ?_, ?_, ?_⟩
      · intro a h; cases h
      · simp
      · simp
    · have : ∀ (len : Nat) (ds : List V), ds.length = len * m → (∀ (i j : Nat) (u : V) (s : TypeId), i < len → j < m → ds[i * m + j]? = some u → ls[j]? = some s → Shp P D M k s u) → ∃ l, ofRecs d m len ds = some l ∧ l.length = len ∧ ∀ a ∈ l, R a := by
        intro len
        induction len with
        | zero =>
          intro ds h1 _
          have : ds = [] := List.eq_nil_of_length_eq_zero (by simpa using h1)
          refine ⟨[], by rw [this]; rfl, rfl, ?_⟩
          intro a h; cases h
        | succ len ih =>
          intro ds h1 h4
          rw [Nat.succ_mul] at h1
          obtain ⟨a, a1, a2⟩ := hd k (ds.take m) (by rw [List.length_take]; omega) (fun j u s hju hs => by
            have hj : j < m := by
              rcases Nat.lt_or_ge j m with q | q
              · exact q
              · rw [List.getElem?_eq_none (by rw [List.length_take]; omega)] at hju; cases hju
            rw [List.getElem?_take_of_lt hj] at hju
            exact h4 0 j u s (by omega) hj (by rw [Nat.zero_mul, Nat.zero_add]; exact hju) hs)
          obtain ⟨l, l1, l2, l3⟩ := ih (ds.drop m) (by rw [List.length_drop]; omega) (fun i j u s hi hj hju hs => h4 (i + 1) j u s (by omega) hj (by rw [List.getElem?_drop] at hju; rw [← hju]; congr 1; rw [Nat.succ_mul]; omega) hs)
          refine ⟨a :: l, ?_, by simp [l2], fun x hx => ?_⟩
          · unfold ofRecs; rw [a1, Option.bind_some, l1]; rfl
          · rcases List.mem_cons.1 hx with rfl | q
            · exact a2
            · exact l3 x q
      obtain ⟨l, l1, l2, l3⟩ := this len ds h1 h4
      exact ⟨l, l1, l3, by rw [l2]; exact h2, by rw [l2]; exact h3⟩
end
end Go.Ab
