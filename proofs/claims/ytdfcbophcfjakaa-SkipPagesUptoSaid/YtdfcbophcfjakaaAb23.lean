import Derived.Test.YtdfcbophcfjakaaAb22
import Derived.Carry
import Derived.OpenShut
import Derived.ChangeOld
import Derived.SizedLaws
set_option linter.unusedSimpArgs false
set_option linter.unusedVariables false
set_option linter.unusedSectionVars false
/- What a function is handed, as abstract values with their shapes. -/
namespace Go.Ab
theorem mapM_get {α β : Type} {f : α → Option β} : ∀ {l : List α} {r : List β}, l.mapM f = some r → r.length = l.length ∧ ∀ i (h : i < l.length) (h' : i < r.length), f (l[i]'h) = some (r[i]'h')
  | [], r, h => by simp at h; subst h; exact ⟨rfl, fun i h => absurd h (by simp)⟩
  | a :: l, r, h => by
    rw [List.mapM_cons] at h
    cases ha : f a with
    | none => rw [ha] at h; cases h
    | some b =>
      rw [ha] at h
      cases hl : l.mapM f with
      | none => rw [hl] at h; cases h
      | some bs =>
        rw [hl] at h; cases h
        obtain ⟨g1, g2⟩ := mapM_get hl
        refine ⟨by simp [g1], fun i hi hi' => ?_⟩
        cases i with
        | zero => exact ha
        | succ i => exact g2 i (by simpa using hi) (by simpa using hi')
def conti (P : Program) : Nat → List Field → Option Nat
  | off, [] => some off
  | off, f :: fs => if f.offset = off then conti P (off + P.cellsOf f.type) fs else none
/-- Structs' fields lie one behind the other, arrays' elements too; all parts' types are in the table. -/
def laidFlat (P : Program) : Bool := (List.range P.types.size).all fun t => match P.underlying t with
  | some (.struct fs) => decide (conti P 0 fs.toList = some (P.cellsOf t)) && fs.toList.all fun f => decide (f.type < P.types.size)
  | some (.array n e) => decide (n * P.cellsOf e = P.cellsOf t) && decide (e < P.types.size)
  | some (.pointer e) => decide (P.cellsOf t = 1) && decide (e < P.types.size)
  | some (.slice e) => decide (P.cellsOf t = 1) && decide (e < P.types.size)
  | some _ => decide (P.cellsOf t = 1)
  | none => true
theorem laid_at {P : Program} (h : laidFlat P = true) {t : TypeId} (ht : t < P.types.size) : match P.underlying t with
  | some (.struct fs) => conti P 0 fs.toList = some (P.cellsOf t) ∧ ∀ f ∈ fs.toList, f.type < P.types.size
  | some (.array n e) => n * P.cellsOf e = P.cellsOf t ∧ e < P.types.size
  | some (.pointer e) => P.cellsOf t = 1 ∧ e < P.types.size
  | some (.slice e) => P.cellsOf t = 1 ∧ e < P.types.size
  | some _ => P.cellsOf t = 1
  | none => True := by
  unfold laidFlat at h
  rw [List.all_eq_true] at h
  have := h t (by simpa using ht)
  cases hu : P.underlying t with
  | none => trivial
  | some td =>
    rw [hu] at this
    cases td <;> simp only [Bool.and_eq_true, decide_eq_true_eq, List.all_eq_true] at this ⊢ <;> exact this
/-- The types of a value's cells. -/
def leaves (P : Program) : Nat → TypeId → List TypeId
  | 0, t => [t]
  | n + 1, t => match P.underlying t with
    | some (.struct fs) => fs.toList.flatMap fun f => leaves P n f.type
    | some (.array k e) => (List.replicate k (leaves P n e)).flatten
    | _ => [t]
/-- The shape of one cell. -/
def Shp (P : Program) (D M : Nat) : Nat → TypeId → V → Prop
  | 0, _, _ => False
  | n + 1, t, v => match P.underlying t with
    | some .bool => ∃ b, v = .bool b
    | some (.int k) => ∃ i, v = .int k i ∧ (Lit.int k i).wf = true
    | some .string => ∃ s, v = .str s ∧ s.size ≤ 140737488351232 ∧ (M = 0 ∨ s.size ≤ M)
    | some (.pointer e) => v = .nilp ∨ ∃ ds : List V, v = .fptr ds 0 ∧ ds.length = (leaves P D e).length ∧ ∀ (j : Nat) (u : V) (s : TypeId), ds[j]? = some u → (leaves P D e)[j]? = some s → Shp P D M n s u
    | some (.slice e) => v = .nils ∨ ∃ (ds : List V) (len : Nat), v = .lst .frozen ds len ∧ ds.length = len * (leaves P D e).length ∧ len * P.bytesOf e ≤ 140737488351232 ∧ (M = 0 ∨ len ≤ M) ∧ ∀ (i j : Nat) (u : V) (s : TypeId), i < len → j < (leaves P D e).length → ds[i * (leaves P D e).length + j]? = some u → (leaves P D e)[j]? = some s → Shp P D M n s u
    | _ => True
theorem Shp_succ {P : Program} {D M : Nat} : ∀ (n : Nat) (t : TypeId) (v : V), Shp P D M n t v → Shp P D M (n + 1) t v
  | 0, t, v, h => h.elim
  | n + 1, t, v, h => by
    cases hu : P.underlying t with
    | none => rw [Shp, hu]; trivial
    | some td =>
      rw [Shp, hu] at h
      rw [Shp, hu]
      cases td with
      | pointer e =>
        rcases h with h | ⟨ds, h1, h2, h3⟩
        · exact .inl h
        · exact .inr ⟨ds, h1, h2, fun j u s a b => Shp_succ n s u (h3 j u s a b)⟩
      | slice e =>
        rcases h with h | ⟨ds, len, h1, h2, h3, h5, h4⟩
        · exact .inl h
        · exact .inr ⟨ds, len, h1, h2, h3, h5, fun i j u s a b c d => Shp_succ n s u (h4 i j u s a b c d)⟩
      | _ => exact h
theorem cells_get {w : World} {base : Nat} {a : Addr} {n : Nat} {cs : List Value} (h : w.cells? base a n = some cs) : cs.length = n ∧ ∀ i (h : i < cs.length), w.cell? (a.add i) = some (cs[i]'h) := by
  unfold World.cells? at h
  split at h
  · obtain ⟨g1, g2⟩ := mapM_get h
    simp only [List.length_range] at g1
    refine ⟨g1, fun i hi => ?_⟩
    have := g2 i (by simpa using (by omega : i < n)) hi
    simpa using this
  · cases h
theorem add_add' (a : Addr) (i j : Nat) : (a.add i).add j = a.add (i + j) := add_add a i j
theorem cell_block {w : World} {x : Addr} {i : Nat} {v : Value} (h : w.cell? (x.add i) = some v) : x.block < w.heap.size := by
  unfold World.cell? at h
  rw [add_block] at h
  cases hq : w.heap[x.block]? with
  | none => rw [hq] at h; cases h
  | some o => exact lt_of_get hq
/-- Parts of one length, one behind the other. -/
theorem joined {α : Type} (m : Nat) (g : Nat → List α) (hg : ∀ i, (g i).length = m) : ∀ n, ((List.range n).flatMap g).length = n * m ∧ ∀ i j, i < n → j < m → ((List.range n).flatMap g)[i * m + j]? = (g i)[j]? := by
  intro n
  induction n with
  | zero => exact ⟨by simp, fun i j h => absurd h (by omega)⟩
  | succ n ih =>
    obtain ⟨h1, h2⟩ := ih
    rw [List.range_succ, List.flatMap_append]
    have e : ([n].flatMap g) = g n := by simp
    rw [e]
    refine ⟨by rw [List.length_append, h1, hg, Nat.succ_mul], fun i j hi hj => ?_⟩
    rcases Nat.lt_or_ge i n with q | q
    · have : i * m + j < n * m := by
        have := Nat.mul_le_mul_right m (show i + 1 ≤ n by omega)
        rw [Nat.succ_mul] at this; omega
      rw [List.getElem?_append_left (by omega)]
      exact h2 i j q hj
    · obtain rfl : i = n := by omega
      rw [List.getElem?_append_right (by omega), h1]
      congr 1; omega
def Plain1 (v : V) : Prop := (∀ k cs len, v = .lst k cs len → k = .frozen) ∧ ∀ vs, v ≠ .tup vs
section
variable {H : Type} {enc : TypeId × Value → H} {P : Program} {w : World} {D M : Nat} {B : DataW H → Nat}
abbrev GoodCell (P : Program) (D M : Nat) (w : World) (n : Nat) (t : TypeId) (c : Value) : Prop := ∃ v, VR (top w) w v c ∧ Shp P D M n t v ∧ Plain1 v
/-- A measure of what is read: a whole is no less than its parts. -/
structure Bulk (B : DataW H → Nat) : Prop where
  str : ∀ bs, bs.length ≤ B (.lit (.string bs))
  ptr : ∀ d, B d ≤ B (.ptr d)
  len : ∀ es sp, es.length ≤ B (.slice es sp)
  elem : ∀ es sp d, d ∈ es → B d ≤ B (.slice es sp)
  part : ∀ ps d, d ∈ ps → B d ≤ B (.agg ps)
def InM (B : DataW H → Nat) (M : Nat) (d : DataW H) : Prop := M = 0 ∨ B d ≤ M
theorem InM.sub {d d' : DataW H} (hB : M ≠ 0 → Bulk B) (h : InM B M d) (k : Bulk B → B d' ≤ B d) : InM B M d' := by
  by_cases q : M = 0
  · exact .inl q
  · exact .inr (Nat.le_trans (k (hB q)) (h.resolve_left q))
theorem InM.num {d : DataW H} {n : Nat} (hB : M ≠ 0 → Bulk B) (h : InM B M d) (k : Bulk B → n ≤ B d) : M = 0 ∨ n ≤ M := by
  by_cases q : M = 0
  · exact .inl q
  · exact .inr (Nat.le_trans (k (hB q)) (h.resolve_left q))
theorem weights_all {e : TypeId} : ∀ {ds : List (DataW H)}, (DataW.weightsAll P e ds).all (· ≤ reachBytes) = true → ∀ d ∈ ds, (d.weights P e).all (· ≤ reachBytes) = true
  | [], _, d, hd => by cases hd
  | x :: ds, h, d, hd => by
    simp only [DataW.weightsAll, List.all_append, Bool.and_eq_true] at h
    rcases List.mem_cons.1 hd with rfl | q
    · exact h.1
    · exact weights_all h.2 d q
theorem weights_each : ∀ {ts : List TypeId} {ds : List (DataW H)}, (DataW.weightsEach P ts ds).all (· ≤ reachBytes) = true → ∀ (i : Nat) (t : TypeId) (d : DataW H), ts[i]? = some t → ds[i]? = some d → (d.weights P t).all (· ≤ reachBytes) = true
  | [], _, _, i, t, d, ht, _ => by simp at ht
  | _ :: _, [], _, i, t, d, _, hd => by simp at hd
  | t0 :: ts, d0 :: ds, h, i, t, d, ht, hd => by
    simp only [DataW.weightsEach, List.all_append, Bool.and_eq_true] at h
    cases i with
    | zero => cases ht; cases hd; exact h.1
    | succ i => exact weights_each h.2 i t d (by simpa using ht) (by simpa using hd)
theorem in_range {a b : Nat} (h : a ≤ reachBytes) : a ≤ 140737488351232 := h
theorem one_good {n : Nat} {t : TypeId} {c : Value} {v : V} (h1 : VR (top w) w v c) (h2 : Shp P D M (n + 1) t v) (h3 : Plain1 v) : ∀ (j : Nat) (c' : Value) (s : TypeId), [c][j]? = some c' → [t][j]? = some s → GoodCell P D M w (n + 1) s c' := by
  intro j c' s hc hs
  cases j with
  | zero => cases hc; cases hs; exact ⟨v, h1, h2, h3⟩
  | succ j => simp at hc
theorem plain_of {v : V} (h : ∀ k cs len, v ≠ .lst k cs len) (h2 : ∀ vs, v ≠ .tup vs) : Plain1 v := ⟨fun k cs len e => absurd e (h k cs len), h2⟩
theorem fields_in (hl : laidFlat P = true) {n : Nat} {cs : List Value} (ih : ∀ (t : TypeId) (cs : List Value) (d : DataW H) (ps : List MemPlace), InM B M d → t < P.types.size → DataW.trod enc P w 0 (fun _ => true) true n t cs = some (d, ps) → (d.weights P t).all (· ≤ reachBytes) = true →
    (leaves P n t).length = cs.length ∧ P.cellsOf t = cs.length ∧ (∀ m, n ≤ m → leaves P m t = leaves P n t) ∧ ∀ (j : Nat) (c : Value) (s : TypeId), cs[j]? = some c → (leaves P n t)[j]? = some s → GoodCell P D M w n s c) :
    ∀ (fs : List Field) (xs : List (DataW H × List MemPlace)) (off m : Nat), (∀ f ∈ fs, f.type < P.types.size) → conti P off fs = some m → m ≤ cs.length → fs.mapM (fun f => DataW.trod enc P w 0 (fun _ => true) true n f.type ((cs.drop f.offset).take (P.cellsOf f.type))) = some xs →
      (DataW.weightsEach P (fs.map (·.type)) (xs.map (·.1))).all (· ≤ reachBytes) = true → (∀ x ∈ xs, InM B M x.1) →
      off ≤ m ∧ (fs.flatMap fun f => leaves P n f.type).length = m - off ∧ (∀ m, n ≤ m → (fs.flatMap fun f => leaves P m f.type) = fs.flatMap fun f => leaves P n f.type) ∧ ∀ (j : Nat) (c : Value) (s : TypeId), cs[off + j]? = some c → (fs.flatMap fun f => leaves P n f.type)[j]? = some s → GoodCell P D M w n s c
  | [], xs, off, m, _, hc, hm, hx, hw, _ => by
    simp only [conti, Option.some.injEq] at hc; subst hc
    exact ⟨Nat.le_refl _, by simp, fun _ _ => rfl, fun j c s h1 h2 => by simp at h2⟩
  | f :: fs, xs, off, m, hr0, hc, hm, hx, hw, hI => by
    simp only [conti] at hc
    split at hc
    case isFalse => cases hc
    rename_i hoff
    rw [List.mapM_cons] at hx
    cases hf : DataW.trod enc P w 0 (fun _ => true) true n f.type ((cs.drop f.offset).take (P.cellsOf f.type)) with
    | none => rw [hf] at hx; cases hx
    | some x =>
      rw [hf] at hx
      cases hr : fs.mapM (fun f => DataW.trod enc P w 0 (fun _ => true) true n f.type ((cs.drop f.offset).take (P.cellsOf f.type))) with
      | none => rw [hr] at hx; cases hx
      | some ys =>
        rw [hr] at hx; cases hx
        simp only [List.map_cons, DataW.weightsEach, List.all_append, Bool.and_eq_true] at hw
        obtain ⟨g1, g2, g4, g3⟩ := ih f.type _ x.1 x.2 (hI x (by simp)) (hr0 f (by simp)) hf hw.1
        obtain ⟨k1, k2, k4, k3⟩ := fields_in hl ih fs ys (off + P.cellsOf f.type) m (fun g hg => hr0 g (by simp [hg])) hc hm hr hw.2 (fun y hy => hI y (by simp [hy]))
        rw [hoff] at g1 g2 g3
        rw [List.length_take, List.length_drop] at g2
        rw [List.length_take, List.length_drop] at g1
        refine ⟨by omega, by rw [List.flatMap_cons, List.length_append, k2]; omega, fun m' hm' => by rw [List.flatMap_cons, List.flatMap_cons, g4 m' hm', k4 m' hm'], fun j c s h1 h2 => ?_⟩
        rw [List.flatMap_cons] at h2
        rcases Nat.lt_or_ge j (leaves P n f.type).length with q | q
        · rw [List.getElem?_append_left q] at h2
          refine g3 j c s ?_ h2
          rw [List.getElem?_take_of_lt (by omega), List.getElem?_drop]; exact h1
        · rw [List.getElem?_append_right q] at h2
          refine k3 (j - (leaves P n f.type).length) c s ?_ h2
          rw [← h1]; congr 1; omega
theorem trod_cells (hl : laidFlat P = true) (hB : M ≠ 0 → Bulk B) : ∀ (n : Nat) (t : TypeId) (cs : List Value) (d : DataW H) (ps : List MemPlace), n ≤ D → InM B M d → t < P.types.size → DataW.trod enc P w 0 (fun _ => true) true n t cs = some (d, ps) → (d.weights P t).all (· ≤ reachBytes) = true →
    (leaves P n t).length = cs.length ∧ P.cellsOf t = cs.length ∧ (∀ m, n ≤ m → leaves P m t = leaves P n t) ∧ ∀ (j : Nat) (c : Value) (s : TypeId), cs[j]? = some c → (leaves P n t)[j]? = some s → GoodCell P D M w n s c := by
  intro n
  induction n with
  | zero => intro t cs d ps _ _ _ h; simp [DataW.trod] at h
  | succ n ih =>
    intro t cs d ps hD hM hin h hw
    have ih := fun t cs d ps => ih t cs d ps (by omega)
    cases hu : P.underlying t with
    | none => simp [DataW.trod, hu] at h
    | some td =>
      have hla := laid_at hl hin
      rw [hu] at hla
      have one : ∀ {c : Value} {v : V}, cs = [c] → (∀ m, leaves P (m + 1) t = [t]) → P.cellsOf t = 1 → VR (top w) w v c → Shp P D M (n + 1) t v → Plain1 v → (leaves P (n + 1) t).length = cs.length ∧ P.cellsOf t = cs.length ∧ (∀ m, n + 1 ≤ m → leaves P m t = leaves P (n + 1) t) ∧ ∀ (j : Nat) (c : Value) (s : TypeId), cs[j]? = some c → (leaves P (n + 1) t)[j]? = some s → GoodCell P D M w (n + 1) s c := by
        intro c v e1 e2 e3 h1 h2 h3
        subst e1
        rw [e2]
        exact ⟨rfl, e3, fun m hm => by obtain ⟨k, rfl⟩ : ∃ k, m = k + 1 := ⟨m - 1, by omega⟩; exact e2 k, one_good h1 h2 h3⟩
      unfold DataW.trod at h
      rw [hu] at h
      cases td with
      | bool =>
        rcases cs with _ | ⟨c, _ | ⟨c2, r⟩⟩
        · simp at h
        · cases c <;> simp at h
          rename_i x
          exact one rfl (fun m => by simp only [leaves, hu]) hla .bool (by simp only [Shp, hu]; exact ⟨_, rfl⟩) (plain_of (by simp) (by simp))
        · cases c <;> simp at h
      | int k =>
        rcases cs with _ | ⟨c, _ | ⟨c2, r⟩⟩
        · simp at h
        · cases c <;> simp at h
          rename_i k' x
          obtain ⟨⟨rfl, hwf⟩, _⟩ := h
          exact one rfl (fun m => by simp only [leaves, hu]) hla .int (by simp only [Shp, hu]; exact ⟨_, rfl, hwf⟩) (plain_of (by simp) (by simp))
        · cases c <;> simp at h
      | string =>
        rcases cs with _ | ⟨c, _ | ⟨c2, r⟩⟩
        · simp at h
        · cases c <;> simp at h
          rename_i x
          obtain ⟨h1, rfl, _⟩ := h
          have hs : x.size ≤ 140737488351232 := by
            have h2 := List.all_eq_true.1 hw x.data.toList.length (by simp [DataW.weights])
            have h3 := of_decide_eq_true h2
            rw [Array.length_toList] at h3
            exact h3
          exact one rfl (fun m => by simp only [leaves, hu]) hla .str (by simp only [Shp, hu]; exact ⟨_, rfl, hs, hM.num hB (fun hb => by have := hb.str x.data.toList; rw [Array.length_toList] at this; exact this)⟩) (plain_of (by simp) (by simp))
        · cases c <;> simp at h
      | pointer e =>
        rcases cs with _ | ⟨c, _ | ⟨c2, r⟩⟩
        · simp at h
        · cases c with
          | pointer x => ?_
          | _ => simp at h
          cases x with
          | none => exact one rfl (fun m => by simp only [leaves, hu]) hla.1 .nilp (by rw [Shp, hu]; exact .inl rfl) (plain_of (by simp) (by simp))
          | some q =>
            simp only at h
            obtain ⟨x', hx', h⟩ := Option.map_eq_some_iff.1 h
            obtain ⟨cs', hc, ht⟩ := Option.bind_eq_some_iff.1 hx'
            obtain ⟨d', ps'⟩ := x'
            simp only [Prod.mk.injEq] at h
            obtain ⟨rfl, -⟩ := h
            simp only [DataW.weights, hu] at hw
            obtain ⟨g1, g2⟩ := cells_get hc
            obtain ⟨k1, k2, k4, k3⟩ := ih e cs' d' ps' (hM.sub hB fun hb => hb.ptr d') hla.2 ht hw
            have k5 := k4 D (by omega)
            have hch : ∀ j : Nat, ∃ v : V, ∀ (hj : j < cs'.length), VR (top w) w v (cs'[j]'hj) ∧ ∀ s, (leaves P n e)[j]? = some s → Shp P D M n s v := by
              intro j
              by_cases hj : j < cs'.length
              · obtain ⟨v, v1, v2, v3⟩ := k3 j (cs'[j]'hj) ((leaves P n e)[j]'(by omega)) (List.getElem?_eq_getElem hj) (List.getElem?_eq_getElem (by omega))
                exact ⟨v, fun _ => ⟨v1, fun s hs => by rw [List.getElem?_eq_getElem (by omega)] at hs; cases hs; exact v2⟩⟩
              · exact ⟨.undef, fun h => absurd h hj⟩
            obtain ⟨g, hg⟩ := Classical.axiomOfChoice hch
            have hds : ((List.range cs'.length).map g).length = cs'.length := by simp
            have hv : VR (top w) w (.fptr ((List.range cs'.length).map g) 0) (.pointer (some (q.add 0))) := by
              refine .fptr (fun j => cs'.getD j Go.undef) (fun j hj => ?_) (fun j hj => ?_) (fun j hj => ?_)
              · rw [hds] at hj; exact cell_block (g2 j hj)
              · rw [hds] at hj; rw [List.getD_eq_getElem?_getD, List.getElem?_eq_getElem hj]; exact g2 j hj
              · have hj' : j < cs'.length := by rw [hds] at hj; exact hj
                rw [List.getElem_map, List.getElem_range, List.getD_eq_getElem?_getD, List.getElem?_eq_getElem hj']
                exact (hg j hj').1
            have hq : q.add 0 = q := by simp [Addr.add]
            rw [hq] at hv
            refine one rfl (fun m => by simp only [leaves, hu]) hla.1 hv ?_ (plain_of (by simp) (by simp))
            simp only [Shp, hu]
            refine .inr ⟨_, rfl, by rw [hds, k5, k1], fun j u s hu' hs => ?_⟩
            rw [k5] at hs
            have hj : j < cs'.length := by
              rcases Nat.lt_or_ge j cs'.length with q | q
              · exact q
              · rw [List.getElem?_eq_none (by rw [hds]; exact q)] at hu'; cases hu'
            rw [List.getElem?_map, List.getElem?_range hj] at hu'
            cases hu'
            exact (hg j hj).2 s hs
        · cases c with
          | pointer x => cases x <;> simp at h
          | _ => simp at h
      | slice e =>
        rcases cs with _ | ⟨c, _ | ⟨c2, r⟩⟩
        · simp at h
        · cases c with
          | slice x len cap =>
            cases x with
            | none =>
              have h0 : len = 0 ∧ cap = 0 := by
                cases len <;> cases cap <;> simp at h <;> simp
              obtain ⟨rfl, rfl⟩ := h0
              exact one rfl (fun m => by simp only [leaves, hu]) hla.1 .nils (by rw [Shp, hu]; exact .inl rfl) (plain_of (by simp) (by simp))
            | some q =>
              simp only at h
              split at h
              case isFalse => cases h
              rename_i hcond
              obtain ⟨elems, he, h⟩ := Option.bind_eq_some_iff.1 h
              obtain ⟨rest, hr, h⟩ := Option.map_eq_some_iff.1 h
              simp only [Prod.mk.injEq] at h
              obtain ⟨rfl, -⟩ := h
              simp only [DataW.weights, hu, List.all_cons, List.all_append, Bool.and_eq_true, decide_eq_true_eq] at hw
              obtain ⟨w1, w2, w3⟩ := hw
              obtain ⟨e1, e2⟩ := mapM_get he
              simp only [List.length_range] at e1
              have hel : ∀ i, i < len → ∃ cs' d' ps', w.cells? 0 (q.add (i * P.cellsOf e)) (P.cellsOf e) = some cs' ∧ DataW.trod enc P w 0 (fun _ => true) true n e cs' = some (d', ps') ∧ (d'.weights P e).all (· ≤ reachBytes) = true ∧ InM B M d' := by
                intro i hi
                have := e2 i (by simpa using hi) (by omega)
                simp only [List.getElem_range] at this
                obtain ⟨cs', c1, c2⟩ := Option.bind_eq_some_iff.1 this
                have hmem : (elems[i]'(by omega)).1 ∈ elems.map (·.1) := List.mem_map.2 ⟨elems[i]'(by omega), List.getElem_mem _, rfl⟩
                exact ⟨cs', _, _, c1, c2, weights_all w2 _ hmem, hM.sub hB fun hb => hb.elem _ _ _ hmem⟩
              have hm : ∀ i, i < len → (leaves P n e).length = P.cellsOf e := by
                intro i hi
                obtain ⟨cs', d', ps', c1, c2, c3, c4⟩ := hel i hi
                obtain ⟨k1, k2, _⟩ := ih e cs' d' ps' c4 hla.2 c2 c3
                omega
              have hst : ∀ i, i < len → leaves P D e = leaves P n e := by
                intro i hi
                obtain ⟨cs', d', ps', c1, c2, c3, c4⟩ := hel i hi
                exact (ih e cs' d' ps' c4 hla.2 c2 c3).2.2.1 D (by omega)
              have hch : ∀ i : Nat, ∃ g : List V, g.length = (leaves P n e).length ∧ (i < len → ∀ j u, g[j]? = some u → ∃ c, w.cell? (q.add (i * P.cellsOf e + j)) = some c ∧ VR (top w) w u c ∧ ∀ s, (leaves P n e)[j]? = some s → Shp P D M n s u) := by
                intro i
                by_cases hi : i < len
                · obtain ⟨cs', d', ps', c1, c2, c3, c4⟩ := hel i hi
                  obtain ⟨g1, g2⟩ := cells_get c1
                  obtain ⟨k1, k2, -, k3⟩ := ih e cs' d' ps' c4 hla.2 c2 c3
                  have hch : ∀ j : Nat, ∃ v : V, ∀ (hj : j < cs'.length), VR (top w) w v (cs'[j]'hj) ∧ ∀ s, (leaves P n e)[j]? = some s → Shp P D M n s v := by
                    intro j
                    by_cases hj : j < cs'.length
                    · obtain ⟨v, v1, v2, v3⟩ := k3 j (cs'[j]'hj) ((leaves P n e)[j]'(by omega)) (List.getElem?_eq_getElem hj) (List.getElem?_eq_getElem (by omega))
                      exact ⟨v, fun _ => ⟨v1, fun s hs => by rw [List.getElem?_eq_getElem (by omega)] at hs; cases hs; exact v2⟩⟩
                    · exact ⟨.undef, fun h => absurd h hj⟩
                  obtain ⟨g, hg⟩ := Classical.axiomOfChoice hch
                  refine ⟨(List.range cs'.length).map g, by simp [k1], fun _ j u hju => ?_⟩
                  have hj : j < cs'.length := by
                    rcases Nat.lt_or_ge j cs'.length with q | q
                    · exact q
                    · rw [List.getElem?_eq_none (by simpa using q)] at hju; cases hju
                  rw [List.getElem?_map, List.getElem?_range hj] at hju
                  cases hju
                  refine ⟨_, ?_, (hg j hj).1, (hg j hj).2⟩
                  have := g2 j hj
                  rwa [add_add] at this
                · exact ⟨List.replicate (leaves P n e).length .undef, by simp, fun h => absurd h hi⟩
              obtain ⟨g, hg⟩ := Classical.axiomOfChoice hch
              obtain ⟨j1, j2⟩ := joined (leaves P n e).length g (fun i => (hg i).1) len
              have hdiv : ∀ j, j < len * (leaves P n e).length → ∃ i k, i < len ∧ k < (leaves P n e).length ∧ j = i * (leaves P n e).length + k := by
                intro j hj
                have hpos : 0 < (leaves P n e).length := by
                  rcases Nat.eq_zero_or_pos (leaves P n e).length with q | q
                  · rw [q, Nat.mul_zero] at hj; omega
                  · exact q
                refine ⟨j / (leaves P n e).length, j % (leaves P n e).length, (Nat.div_lt_iff_lt_mul hpos).2 hj, Nat.mod_lt _ hpos, ?_⟩
                have := Nat.div_add_mod j (leaves P n e).length
                rw [Nat.mul_comm] at this; omega
              have hcell : ∀ j (hj : j < ((List.range len).flatMap g).length), ∃ c, w.cell? (q.add j) = some c ∧ VR (top w) w (((List.range len).flatMap g)[j]'hj) c := by
                intro j hj
                obtain ⟨i, k, hi, hk, hjk⟩ := hdiv j (by omega)
                have h3 := j2 i k hi hk
                rw [← hjk, List.getElem?_eq_getElem hj, List.getElem?_eq_getElem (by rw [(hg i).1]; exact hk)] at h3
                obtain ⟨c, c1, c2, _⟩ := (hg i).2 hi k _ (List.getElem?_eq_getElem (by rw [(hg i).1]; exact hk))
                rw [← hm i hi, ← hjk] at c1
                exact ⟨c, c1, by rw [Option.some.inj h3]; exact c2⟩
              have hv : VR (top w) w (.lst .frozen ((List.range len).flatMap g) len) (.slice (some q) len cap) := by
                refine .lst (fun j => (w.cell? (q.add j)).getD Go.undef) hcond.2.1 (fun j hj => ?_) (fun j hj => ?_) (fun j hj => ?_)
                · obtain ⟨c, c1, _⟩ := hcell j hj; exact cell_block c1
                · obtain ⟨c, c1, _⟩ := hcell j hj; rw [c1]; rfl
                · obtain ⟨c, c1, c2⟩ := hcell j hj; rw [c1]; exact c2
              refine one rfl (fun m => by simp only [leaves, hu]) hla.1 hv ?_ ⟨fun k cs l h => by cases h; rfl, fun vs h => by cases h⟩
              simp only [Shp, hu]
              refine .inr ⟨_, len, rfl, ?_, ?_, hM.num hB (fun hb => by have := hb.len (elems.map (·.1)) (rest.map (·.1)); rw [List.length_map] at this; omega), fun i j u s hi hj hu' hs => ?_⟩
              · rcases Nat.eq_zero_or_pos len with q | q
                · rw [j1, q]; simp
                · rw [hst 0 q]; exact j1
              · rw [List.length_map] at w1
                have : len * P.bytesOf e ≤ (elems.length + (rest.map (·.1)).length) * P.bytesOf e := Nat.mul_le_mul_right _ (by omega)
                exact Nat.le_trans this w1
              · rw [hst i hi] at hj hu' hs
                rw [j2 i j hi hj] at hu'
                obtain ⟨c, _, _, c3⟩ := (hg i).2 hi j u hu'
                exact c3 s hs
          | _ => simp at h
        · cases c with
          | slice x len cap => cases x <;> cases len <;> cases cap <;> simp at h
          | _ => simp at h
      | array k e =>
        simp only at h hla
        split at h
        case isFalse => cases h
        rename_i hlen
        obtain ⟨xs, hx, h⟩ := Option.map_eq_some_iff.1 h
        simp only [Prod.mk.injEq] at h
        obtain ⟨rfl, -⟩ := h
        simp only [DataW.weights, hu] at hw
        obtain ⟨e1, e2⟩ := mapM_get hx
        simp only [List.length_range] at e1
        have hel : ∀ i (hi : i < k), (leaves P n e).length = P.cellsOf e ∧ (∀ m, n ≤ m → leaves P m e = leaves P n e) ∧ ∀ (j : Nat) (c : Value) (s : TypeId), ((cs.drop (i * P.cellsOf e)).take (P.cellsOf e))[j]? = some c → (leaves P n e)[j]? = some s → GoodCell P D M w n s c := by
          intro i hi
          have := e2 i (by simpa using hi) (by omega)
          simp only [List.getElem_range] at this
          obtain ⟨g1, g2, g4, g3⟩ := ih e _ _ _ (hM.sub hB fun hb => hb.part _ _ (List.mem_map.2 ⟨xs[i]'(by omega), List.getElem_mem _, rfl⟩)) hla.2 this (weights_all hw _ (List.mem_map.2 ⟨xs[i]'(by omega), List.getElem_mem _, rfl⟩))
          exact ⟨by omega, g4, g3⟩
        have e4 : ∀ m, leaves P (m + 1) t = (List.range k).flatMap fun _ => leaves P m e := by
          intro m
          simp only [leaves, hu]
          rw [List.flatMap_def, List.map_const']
          simp
        have e3 := e4 n
        rw [e3]
        obtain ⟨j1, j2⟩ := joined (leaves P n e).length (fun _ => leaves P n e) (fun _ => rfl) k
        have hkl : k * (leaves P n e).length = k * P.cellsOf e := by
          rcases Nat.eq_zero_or_pos k with q | q
          · rw [q]; simp
          · rw [(hel 0 q).1]
        refine ⟨by rw [j1, hkl]; have := hla.1; omega, by omega, fun m hm => ?_, fun j c s h1 h2 => ?_⟩
        · obtain ⟨m', rfl⟩ : ∃ m', m = m' + 1 := ⟨m - 1, by omega⟩
          rw [e4]
          rcases Nat.eq_zero_or_pos k with q | q
          · rw [q]; rfl
          · rw [(hel 0 q).2.1 m' (by omega)]
        have hj : j < k * (leaves P n e).length := by
          rcases Nat.lt_or_ge j (k * (leaves P n e).length) with q | q
          · exact q
          · rw [List.getElem?_eq_none (by rw [j1]; exact q)] at h2; cases h2
        have hpos : 0 < (leaves P n e).length := by
          rcases Nat.eq_zero_or_pos (leaves P n e).length with q | q
          · rw [q, Nat.mul_zero] at hj; omega
          · exact q
        have hi : j / (leaves P n e).length < k := (Nat.div_lt_iff_lt_mul hpos).2 hj
        have hmod := Nat.mod_lt j hpos
        have hjk : j = j / (leaves P n e).length * (leaves P n e).length + j % (leaves P n e).length := by
          have := Nat.div_add_mod j (leaves P n e).length
          rw [Nat.mul_comm] at this; omega
        have h3 := j2 _ _ hi hmod
        rw [← hjk] at h3
        rw [h3] at h2
        obtain ⟨m1, -, m2⟩ := hel _ hi
        have : ∃ v, VR (top w) w v c ∧ Shp P D M n s v ∧ Plain1 v := by
          refine m2 (j % (leaves P n e).length) c s ?_ h2
          rw [List.getElem?_take_of_lt (by omega), List.getElem?_drop, ← m1, ← hjk]; exact h1
        obtain ⟨v, v1, v2, v3⟩ := this
        exact ⟨v, v1, Shp_succ n s v v2, v3⟩
      | struct fs =>
        simp only at h hla
        split at h
        case isFalse => cases h
        rename_i hlen
        obtain ⟨xs, hx, h⟩ := Option.map_eq_some_iff.1 h
        simp only [Prod.mk.injEq] at h
        obtain ⟨rfl, -⟩ := h
        simp only [DataW.weights, hu] at hw
        obtain ⟨g1, g2, g4, g3⟩ := fields_in hl ih fs.toList xs 0 _ hla.2 hla.1 (by omega) hx hw (fun x hx' => hM.sub hB fun hb => hb.part _ _ (List.mem_map.2 ⟨x, hx', rfl⟩))
        have e4 : ∀ m, leaves P (m + 1) t = fs.toList.flatMap fun f => leaves P m f.type := fun m => by simp only [leaves, hu]
        have e3 := e4 n
        rw [e3]
        refine ⟨by omega, hlen.symm, fun m hm => ?_, fun j c s h1 h2 => ?_⟩
        · obtain ⟨m', rfl⟩ : ∃ m', m = m' + 1 := ⟨m - 1, by omega⟩
          rw [e4, g4 m' (by omega)]
        obtain ⟨v, v1, v2, v3⟩ := g3 j c s (by rw [Nat.zero_add]; exact h1) h2
        exact ⟨v, v1, Shp_succ n s v v2, v3⟩
      | _ =>
        rcases cs with _ | ⟨c, _ | ⟨c2, r⟩⟩
        · simp at h
        · exact one rfl (fun m => by simp only [leaves, hu]) hla (.undef (fun b hb => by subst hb; first | (simp at h; done) | cases h)) (by rw [Shp, hu]; trivial) (plain_of (by simp) (by simp))
        · simp at h
/-! a function's arguments -/
/-- What one argument may be. -/
def ShpV (P : Program) (D M : Nat) (n : Nat) (t : TypeId) (v : V) : Prop :=
  if isAgg P t = true then ∃ vs, v = .agg vs ∧ vs.length = (leaves P D t).length ∧ ∀ (j : Nat) (u : V) (s : TypeId), vs[j]? = some u → (leaves P D t)[j]? = some s → Shp P D M n s u
  else Shp P D M n t v
def ShpAll (P : Program) (D M : Nat) (n : Nat) : List TypeId → List V → Prop
  | [], [] => True
  | t :: ts, v :: vs => ShpV P D M n t v ∧ ShpAll P D M n ts vs
  | _, _ => False
theorem Shp_le {n m : Nat} (h : n ≤ m) {t : TypeId} {v : V} (k : Shp P D M n t v) : Shp P D M m t v := by
  induction h with
  | refl => exact k
  | step h ih => exact Shp_succ _ _ _ ih
theorem ShpV_le {n m : Nat} (h : n ≤ m) {t : TypeId} {v : V} (k : ShpV P D M n t v) : ShpV P D M m t v := by
  unfold ShpV at *
  split
  · rename_i hg
    rw [if_pos hg] at k
    obtain ⟨vs, k1, k2, k3⟩ := k
    exact ⟨vs, k1, k2, fun j u s a b => Shp_le h (k3 j u s a b)⟩
  · rename_i hg
    rw [if_neg hg] at k
    exact Shp_le h k
theorem ShpAll_le {n m : Nat} (h : n ≤ m) : ∀ {ts : List TypeId} {vs : List V}, ShpAll P D M n ts vs → ShpAll P D M m ts vs
  | [], [], _ => trivial
  | [], _ :: _, k => k.elim
  | _ :: _, [], k => k.elim
  | _ :: _, _ :: _, ⟨k1, k2⟩ => ⟨ShpV_le h k1, ShpAll_le h k2⟩
theorem trod_more {n m : Nat} (h : n ≤ m) {t : TypeId} {cs : List Value} {x : DataW H × List MemPlace} (k : DataW.trod enc P w 0 (fun _ => true) true n t cs = some x) : DataW.trod enc P w 0 (fun _ => true) true m t cs = some x := by
  induction h with
  | refl => exact k
  | step h ih => exact DataW.trod_succ _ _ _ _ ih
theorem arg_in (hl : laidFlat P = true) (hB : M ≠ 0 → Bulk B) {n : Nat} (hD : n ≤ D) {t : TypeId} (hin : t < P.types.size) {c : Value} {d : DataW H} (hM : InM B M d) {ps : List MemPlace} (hw : (d.weights P t).all (· ≤ reachBytes) = true)
    {base : Nat} (hok : Value.okWide P w .any base t c) (h : DataW.trod enc P w 0 (fun _ => true) true n t c.cells.toList = some (d, ps)) : ∃ v, VR (top w) w v c ∧ ShpV P D M n t v ∧ Plain1 v := by
  obtain ⟨k1, k2, k3, k4⟩ := trod_cells (D := D) hl hB n t _ d ps hD hM hin h hw
  have hag : isAgg P t = match P.underlying t with | some (.struct _) | some (.array _ _) => true | _ => false := rfl
  by_cases hg : isAgg P t = true
  · have hc : ∃ cs, c = .agg cs := by
      unfold Value.okWide at hok
      rw [hg] at hag
      split at hok
      · obtain ⟨cs, h1, _⟩ := hok; exact ⟨cs, h1⟩
      · obtain ⟨cs, h1, _⟩ := hok; exact ⟨cs, h1⟩
      · rename_i h1 h2
        cases hu : P.underlying t with
        | none => rw [hu] at hag; cases hag
        | some td => cases td <;> first | exact absurd hu (h1 _) | exact absurd hu (h2 _ _) | (rw [hu] at hag; cases hag)
    obtain ⟨cs, rfl⟩ := hc
    simp only [Value.cells] at k1 k2 k4
    have hch : ∀ j : Nat, ∃ v : V, ∀ (hj : j < cs.toList.length), VR (top w) w v (cs.toList[j]'hj) ∧ ∀ s, (leaves P n t)[j]? = some s → Shp P D M n s v := by
      intro j
      by_cases hj : j < cs.toList.length
      · obtain ⟨v, v1, v2, v3⟩ := k4 j (cs.toList[j]'hj) ((leaves P n t)[j]'(by omega)) (List.getElem?_eq_getElem hj) (List.getElem?_eq_getElem (by omega))
        exact ⟨v, fun _ => ⟨v1, fun s hs => by rw [List.getElem?_eq_getElem (by omega)] at hs; cases hs; exact v2⟩⟩
      · exact ⟨.undef, fun h => absurd h hj⟩
    obtain ⟨g, hgg⟩ := Classical.axiomOfChoice hch
    refine ⟨.agg ((List.range cs.toList.length).map g), .agg (by simp) (fun j hj => ?_), ?_, plain_of (by simp) (by simp)⟩
    · have hj' : j < cs.toList.length := by simpa using hj
      rw [List.getElem_map, List.getElem_range]
      have e : cs.getD j Go.undef = cs.toList[j]'hj' := by
        have : j < cs.size := by simpa using hj'
        simp [Array.getD, this]
      rw [e]; exact (hgg j hj').1
    · unfold ShpV
      rw [if_pos hg]
      refine ⟨_, rfl, by rw [k3 D hD, k1]; simp, fun j u s h1 h2 => ?_⟩
      rw [k3 D hD] at h2
      have hj : j < cs.toList.length := by
        rcases Nat.lt_or_ge j cs.toList.length with q | q
        · exact q
        · rw [List.getElem?_eq_none (by simpa using q)] at h1; cases h1
      rw [List.getElem?_map, List.getElem?_range hj] at h1
      cases h1
      exact (hgg j hj).2 s h2
  · have hc : c.cells.toList = [c] := by
      unfold Value.okWide at hok
      split at hok
      · rename_i h1; rw [h1] at hag; exact absurd hag hg
      · rename_i h1; rw [h1] at hag; exact absurd hag hg
      · cases c <;> first | rfl | skip
        rename_i cs h1 h2
        exfalso
        unfold Cell.okWide at hok
        split at hok
        all_goals first | exact hok.elim | (unfold Cell.ok at hok; split at hok <;> simp_all) | simp_all
    have h1 : ∀ m, leaves P m t = [t] := by
      intro m
      cases m with
      | zero => rfl
      | succ m =>
        unfold leaves
        split
        · rename_i h1; rw [h1] at hag; exact absurd hag hg
        · rename_i h1; rw [h1] at hag; exact absurd hag hg
        · rfl
    rw [hc, h1] at k4
    obtain ⟨v, v1, v2, v3⟩ := k4 0 c t rfl rfl
    exact ⟨v, v1, by unfold ShpV; rw [if_neg hg]; exact v2, v3⟩
theorem args_in {base : Nat} (hl : laidFlat P = true) (hB : M ≠ 0 → Bulk B) : ∀ (ts : List TypeId) (cs : List Value) (ds : List (DataW H)) (ps : List MemPlace), (ts.all fun t => decide (t < P.types.size)) = true → DataW.TrodAll enc P w 0 (fun _ => true) true ts cs ds ps → (DataW.weightsEach P ts ds).all (· ≤ reachBytes) = true →
    (∀ (j : Nat) t v, ts[j]? = some t → cs[j]? = some v → Value.okWide P w .any base t v) → (∀ d ∈ ds, InM B M d) → ∃ n, ∀ D, n ≤ D → ∃ vs, AR (top w) w vs cs ∧ ShpAll P D M n ts vs
  | [], [], [], ps, _, _, _, _, _ => ⟨0, fun D _ => ⟨[], trivial, trivial⟩⟩
  | [], [], _ :: _, _, _, h, _, _, _ => h.elim
  | [], _ :: _, _, _, _, h, _, _, _ => h.elim
  | _ :: _, [], _, _, _, h, _, _, _ => h.elim
  | _ :: _, _ :: _, [], _, _, h, _, _, _ => h.elim
  | t :: ts, c :: cs, d :: ds, ps, ht, ⟨p, q, ⟨n1, h1⟩, h2, _⟩, hw, hok, hM => by
    simp only [DataW.weightsEach, List.all_append, Bool.and_eq_true] at hw
    simp only [List.all_cons, Bool.and_eq_true, decide_eq_true_eq] at ht
    obtain ⟨n2, ih⟩ := args_in hl hB ts cs ds q (by simpa using ht.2) h2 hw.2 (fun j t v a b => hok (j + 1) t v (by simpa using a) (by simpa using b)) (fun x hx => hM x (by simp [hx]))
    refine ⟨max n1 n2, fun D hD => ?_⟩
    obtain ⟨vs, r1, r2⟩ := ih D (by omega)
    obtain ⟨v, v1, v2, v3⟩ := arg_in (D := D) hl hB (n := n1) (by omega) ht.1 (hM d (by simp)) hw.1 (hok 0 t c rfl rfl) h1
    exact ⟨v :: vs, .one v1 v3.1 v3.2 r1, ShpV_le (Nat.le_max_left n1 n2) v2, ShpAll_le (Nat.le_max_right n1 n2) r2⟩
/-! decoders of what comes in -/
theorem leaf_one {e : TypeId} (h : isAgg P e = false) (m : Nat) : leaves P m e = [e] := by
  have hag : isAgg P e = match P.underlying e with | some (.struct _) | some (.array _ _) => true | _ => false := rfl
  cases m with
  | zero => rfl
  | succ m =>
    unfold leaves
    split
    · rename_i h1; rw [h1, h] at hag; cases hag
    · rename_i h1; rw [h1, h] at hag; cases hag
    · rfl
theorem shp_int {n : Nat} {t : TypeId} {k : IntKind} {v : V} (hu : P.underlying t = some (.int k)) (h : Shp P D M n t v) : ∃ i, v = .int k i ∧ (Lit.int k i).wf = true := by
  cases n with
  | zero => exact h.elim
  | succ n => rw [Shp, hu] at h; exact h
theorem shp_bool {n : Nat} {t : TypeId} {v : V} (hu : P.underlying t = some .bool) (h : Shp P D M n t v) : ∃ b, v = .bool b := by
  cases n with
  | zero => exact h.elim
  | succ n => rw [Shp, hu] at h; exact h
theorem shp_str {n : Nat} {t : TypeId} {v : V} (hu : P.underlying t = some .string) (h : Shp P D M n t v) : ∃ s : ByteArray, v = .str s ∧ s.size ≤ 140737488351232 ∧ (M = 0 ∨ s.size ≤ M) := by
  cases n with
  | zero => exact h.elim
  | succ n => rw [Shp, hu] at h; exact h
/-- A slice whose elements have one cell each. -/
theorem shp_list {α : Type} [Inhabited α] {d : V → Option α} {R : α → Prop} {n : Nat} {t e : TypeId} {v : V} (hu : P.underlying t = some (.slice e)) (hg : isAgg P e = false) (hd : ∀ m u, Shp P D M m e u → ∃ a, d u = some a ∧ R a) (h : Shp P D M n t v) :
    ∃ ls, ofList d v = some ls ∧ (∀ a ∈ ls, R a) ∧ ls.length * P.bytesOf e ≤ 140737488351232 ∧ (M = 0 ∨ ls.length ≤ M) := by
  cases n with
  | zero => exact h.elim
  | succ n =>
    rw [Shp, hu] at h
    simp only [leaf_one hg] at h
    rcases h with rfl | ⟨ds, len, rfl, h1, h2, h5, h3⟩
    · refine ⟨[], rfl, ?_, ?_, ?_⟩
      · intro a h; cases h
      · simp
      · simp
    · have hall : ∀ u ∈ ds, ∃ a, d u = some a ∧ R a := by
        intro u hu'
        obtain ⟨i, hi, rfl⟩ := List.mem_iff_getElem.1 hu'
        refine hd n _ (h3 i 0 _ e (by simpa using (by simpa using h1 : ds.length = len) ▸ hi) (by simp) ?_ rfl)
        simp
      have : ∀ (ds : List V), (∀ u ∈ ds, ∃ a, d u = some a ∧ R a) → ∃ ls, ofCells d ds = some ls ∧ ls.length = ds.length ∧ ∀ a ∈ ls, R a := by
        intro ds
        induction ds with
        | nil =>
          intro _
          refine ⟨[], rfl, rfl, ?_⟩
          intro a h; cases h
        | cons u us ih =>
          intro h
          obtain ⟨a, a1, a2⟩ := h u (by simp)
          obtain ⟨ls, l1, l2, l3⟩ := ih fun x hx => h x (by simp [hx])
          refine ⟨a :: ls, ofCells_cons a1 l1, by simp [l2], fun x hx => ?_⟩
          rcases List.mem_cons.1 hx with rfl | q
          · exact a2
          · exact l3 x q
      obtain ⟨ls, l1, l2, l3⟩ := this ds hall
      have hlen : ds.length = len := by simpa using h1
      exact ⟨ls, ofList_lst l1 hlen.symm, l3, by rw [l2, hlen]; exact h2, by rw [l2, hlen]; exact h5⟩
theorem shp_ints {n : Nat} {t e : TypeId} {k : IntKind} {v : V} (hu : P.underlying t = some (.slice e)) (he : P.underlying e = some (.int k)) (h : Shp P D M n t v) :
    ∃ l, ofInts k v = some l ∧ (∀ c ∈ l, (Lit.int k c).wf = true) ∧ l.length * P.bytesOf e ≤ 140737488351232 ∧ (M = 0 ∨ l.length ≤ M) := by
  have hg : isAgg P e = false := by show (match P.underlying e with | some (.struct _) | some (.array _ _) => true | _ => false) = false; rw [he]
  obtain ⟨ls, l1, l2, l3⟩ := shp_list (d := ofInt k) (R := fun c => (Lit.int k c).wf = true) hu hg (fun m u hm => by
    obtain ⟨i, rfl, hi⟩ := shp_int he hm
    exact ⟨i, ofInt_int, hi⟩) h
  refine ⟨ls, ?_, l2, l3⟩
  unfold ofList at l1
  unfold ofInts
  split at l1
  · exact l1
  · rename_i cs len
    split at l1
    · rename_i hlen
      have : ∀ (cs : List V) (ls : List Int), ofCells (ofInt k) cs = some ls → ofCellsI k cs = some ls := by
        intro cs
        induction cs with
        | nil => intro ls h; exact h
        | cons u us ih =>
          intro ls h
          simp only [ofCells] at h
          split at h
          · rename_i a as h1 h2
            cases h
            rw [ofInt_inv h1]
            simp [ofCellsI, ih as h2]
          · cases h
      simp only [this cs ls l1]
      have := (ofCells_len l1).1
      simp only [Option.bind_some]
      rw [if_pos (by omega)]
    · cases l1
  · cases l1
theorem trod_len {W : World} {base : Nat} {spare : Nat → Bool} {held : Bool} : ∀ {ts : List TypeId} {cs : List Value} {ds : List (DataW H)} {ps : List MemPlace}, DataW.TrodAll enc P W base spare held ts cs ds ps → ds.length = ts.length
  | [], [], [], _, _ => rfl
  | [], [], _ :: _, _, h => h.elim
  | [], _ :: _, _, _, h => h.elim
  | _ :: _, [], _, _, h => h.elim
  | _ :: _, _ :: _, [], _, h => h.elim
  | _ :: _, _ :: _, _ :: _, _, ⟨_, _, _, h, _⟩ => by rw [List.length_cons, List.length_cons, trod_len h]
/-- Behind the call the arguments read as they did. -/
theorem args_out (hl : laidOutB P = true) {W W' : World} (hb : Go.RowKit.Below W.heap.size W W') : ∀ (ts : List TypeId) (cs : List Value) (ds : List (DataW H)) (ps : List MemPlace), (ts.all fun t => P.readableRec t && decide (t < P.types.size)) = true → DataW.TrodAll enc P W 0 (fun _ => true) true ts cs ds ps →
    DataW.TrodAll enc P W' 0 (fun b => decide (b < W.heap.size)) true ts cs ds ps
  | [], [], [], ps, _, h => h
  | [], [], _ :: _, _, _, h => h.elim
  | [], _ :: _, _, _, _, h => h.elim
  | _ :: _, [], _, _, _, h => h.elim
  | _ :: _, _ :: _, [], _, _, h => h.elim
  | t :: ts, c :: cs, d :: ds, ps, hr, ⟨p, q, h1, h2, e⟩ => by
    simp only [List.all_cons, Bool.and_eq_true, decide_eq_true_eq] at hr
    have lt : ∀ x ∈ p, x.block < W.heap.size := by obtain ⟨m, hm⟩ := h1; exact DataW.trod_lt m _ _ _ hm
    exact ⟨p, q, Go.RowKit.Below.trod hl hr.1.1 hr.1.2 h1 hb lt, args_out hl hb ts cs ds q (by simpa using hr.2) h2, e⟩
end
end Go.Ab
