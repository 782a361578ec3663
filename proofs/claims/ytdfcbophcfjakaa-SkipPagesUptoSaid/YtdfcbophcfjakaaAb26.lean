import Derived.Test.YtdfcbophcfjakaaAb25
set_option linter.unusedSimpArgs false
set_option linter.unusedVariables false
set_option linter.unusedSectionVars false
/- A piece by hand: rows that grow behind an object's cells. (Under way.) -/
namespace Go.Ab
/-- A world behind another: new blocks, and block b written from cell m on. -/
structure Grown (w w2 : World) (B : Option (Nat × Nat)) : Prop where
  size : w.heap.size ≤ w2.heap.size
  same : ∀ k, k < w.heap.size → (∀ b m, B = some (b, m) → k ≠ b) → w2.heap[k]? = w.heap[k]?
  row : ∀ b m, B = some (b, m) → ∃ (arr arr' : Array Value) (el : TypeId), w.heap[b]? = some (.cells arr el (0, 0)) ∧ w2.heap[b]? = some (.cells arr' el (0, 0)) ∧ arr'.size = arr.size ∧ ∀ k, k < m → arr'.getD k Go.undef = arr.getD k Go.undef
  os : w2.os = w.os
  tape : w2.tape = w.tape
  output : w2.output = w.output
theorem Grown.refl {w : World} {B : Option (Nat × Nat)} (h : ∀ b m, B = some (b, m) → ∃ (arr : Array Value) (el : TypeId), w.heap[b]? = some (.cells arr el (0, 0))) : Grown w w B :=
  ⟨Nat.le_refl _, fun _ _ _ => rfl, fun b m hb => by obtain ⟨arr, el, e⟩ := h b m hb; exact ⟨arr, arr, el, e, e, rfl, fun _ _ => rfl⟩, rfl, rfl, rfl⟩
theorem Grown.wle {G : Gh} {w w2 : World} {B : Option (Nat × Nat)} (h : Grown w w2 B) (hst : ∀ b m, B = some (b, m) → ∀ x, ¬ G.st b x) (hlt : ∀ b x, G.st b x → b < w.heap.size) : WLe G w w2 := by
  refine ⟨h.size, fun b o hs => ?_, fun b arr el fz hb => ?_, h.os, h.tape, h.output, fun b o hb ho => ?_⟩
  · have e := h.same b (hlt b o hs) (fun b' m hb hk => by subst hk; exact hst b m hb o hs)
    unfold World.cell?
    simp only [e]
  · by_cases hB : ∃ m, B = some (b, m)
    · obtain ⟨m, hB⟩ := hB
      obtain ⟨a1, a2, e1, r1, r2, r3, -⟩ := h.row b m hB
      rw [hb] at r1; cases r1
      exact ⟨a2, _, r2, r3⟩
    · have hlt2 : b < w.heap.size := by
        rcases Nat.lt_or_ge b w.heap.size with q | q
        · exact q
        · rw [Array.getElem?_eq_none q] at hb; cases hb
      have e := h.same b hlt2 (fun b' m hb' hk => hB ⟨m, by rw [hk]; exact hb'⟩)
      exact ⟨arr, fz, by rw [e]; exact hb, rfl⟩
  · have hlt2 : b < w.heap.size := by
      rcases Nat.lt_or_ge b w.heap.size with q | q
      · exact q
      · rw [Array.getElem?_eq_none q] at hb; cases hb
    have e := h.same b hlt2 (fun b' m hb' hk => by
      subst hk
      obtain ⟨a1, a2, e1, r1, -⟩ := h.row b m hb'
      rw [hb] at r1; cases r1; cases ho)
    rw [e]; exact hb
/-- Which block may be written: an object's, behind its cells. -/
def Behind (G : Gh) (objs : List AO) (B : Option (Nat × Nat)) : Prop := ∀ b m, B = some (b, m) → ∃ id cs ver o, objs[id]? = some (.cells cs ver) ∧ G.loc id ver = some (b, o) ∧ m = o + cs.length
theorem Grown.store {G : Gh} {tl : Nat → Nat → Option (Nat × Nat)} {E : Nat} {toks : List Nat} {objs : List AO} {w w2 : World} {B : Option (Nat × Nat)} (h : Grown w w2 B) (hs : Store G tl E toks objs w) (hB : Behind G objs B) : Store G tl E toks objs w2 ∧ WLe G w w2 := by
  have hst : ∀ b m, B = some (b, m) → ∀ x, ¬ G.st b x := fun b m hb x => by
    obtain ⟨id, cs, ver, o, h1, h2, -⟩ := hB b m hb
    obtain ⟨b', o', arr, el, g1, -, -, g4⟩ := hs.cellsR id cs ver h1
    rw [h2] at g1; cases g1
    exact g4 x
  have hw := h.wle hst hs.lt
  refine ⟨?_, hw⟩
  have lt_of : ∀ {b : Nat} {ob : Obj}, w.heap[b]? = some ob → b < w.heap.size := fun {b ob} hb => by
    rcases Nat.lt_or_ge b w.heap.size with q | q
    · exact q
    · rw [Array.getElem?_eq_none q] at hb; cases hb
  refine ⟨fun id cs ver hid => ?_, hs.vers, hs.news, fun t n ht => ?_, hs.tnew, hs.tnews, hs.oo, hs.tt, hs.ot, fun b x hx => Nat.lt_of_lt_of_le (hs.lt b x hx) h.size, fun b hb => Nat.lt_of_lt_of_le (hs.tbl b hb) h.size, hs.maps.keep (GLe.refl G) hw (fun b a c hb => (h.same b (lt_of hb) (fun b' m hb' hk => by
      obtain ⟨a1, a2, e1, r1, _⟩ := h.row b' m hb'
      rw [hk, r1] at hb; cases hb)).trans hb) (fun _ _ _ _ => rfl) (fun _ _ _ _ _ _ _ _ _ h => h) (fun _ _ h => h)⟩
  · obtain ⟨b, o, arr, el, g1, g2, g3, g4⟩ := hs.cellsR id cs ver hid
    by_cases hb : ∃ m, B = some (b, m)
    · obtain ⟨m, hb⟩ := hb
      obtain ⟨id', cs', ver', o', k1, k2, k3⟩ := hB b m hb
      have hid' : id = id' := hs.oo id id' cs cs' ver ver' b o o' hid k1 g1 k2
      subst hid'
      rw [hid] at k1; cases k1
      rw [g1] at k2; cases k2
      obtain ⟨a1, a2, e1, r1, r2, r3, r4⟩ := h.row b m hb
      rw [g2.at_] at r1; cases r1
      refine ⟨b, o, a2, el, g1, ⟨r2, by rw [r3]; exact g2.fit⟩, fun j hj => ?_, g4⟩
      rw [r4 (o + j) (by omega)]
      exact (g3 j hj).mono (GLe.refl G) hw
    · have e := h.same b (lt_of g2.at_) (fun b' m hb' hk => hb ⟨m, by rw [hk]; exact hb'⟩)
      exact ⟨b, o, arr, el, g1, ⟨by rw [e]; exact g2.at_, g2.fit⟩, fun j hj => (g3 j hj).mono (GLe.refl G) hw, g4⟩
  · obtain ⟨b, o, arr, el, g1, g2, g3, g4⟩ := hs.toksR t n ht
    have e := h.same b (lt_of g2.at_) (fun b' m hb' hk => by
      subst hk
      obtain ⟨id', cs', ver', o', k1, k2, -⟩ := hB b m hb'
      exact hs.ot id' cs' ver' t n b o' o k1 ht k2 g1)
    exact ⟨b, o, arr, el, g1, ⟨by rw [e]; exact g2.at_, g2.fit⟩, g3, g4⟩
theorem Fr.grown {n : Nat} {G0 G : Gh} {tl : Nat → Nat → Option (Nat × Nat)} {w0 w w2 : World} {objs0 : List AO} {bb : Nat} {s s' : St} {a a' : Act} {B : Option (Nat × Nat)} (hF : Fr n G0 w0 objs0 bb s a w G tl) (h : Grown w w2 B) (hB : Behind G s.objs B)
    (henv : EnvR G tl w0.heap.size w2 s'.env a') (hd : Marks w0.heap.size w2 a'.defers) (hsz : n ≤ a'.tmps.size) (ht : s'.toks = s.toks) (ho : s'.objs = s.objs) (hlow : s'.low ≤ s.low) : Fr n G0 w0 objs0 bb s' a' w2 G tl := by
  obtain ⟨hS, hw⟩ := h.store hF.store hB
  refine ⟨henv, hd, hsz, by rw [ht, ho]; exact hS, hF.gle, hF.wle.trans hF.gle hw, fun b hb hno => ?_, by rw [ho]; exact hF.prov, hF.stn, by rw [ho]; exact hF.len, by rw [ho]; exact fun id h1 h2 => hF.low id (by omega) h2, by rw [ho]; exact hF.clean, hF.bl, hF.g0⟩
  rw [← hF.fr b hb hno]
  refine h.same b (Nat.lt_of_lt_of_le hb hF.wle.size) fun b' m hb' hk => ?_
  subst hk
  obtain ⟨id, cs, ver, o, k1, k2, -⟩ := hB b m hb'
  rcases hF.prov id b (.cells k1 k2) with q | q
  · omega
  · exact hno q.owned
/-- Where the grown row lies. -/
def GAt (w1 w : World) (B : Option (Nat × Nat)) (o len : Nat) (c : Value) : Prop :=
  (len = 0 ∧ ∃ base, c = .slice base 0 0) ∨ ∃ b p cap, c = .slice (some ⟨b, p, none⟩) len cap ∧ len ≤ cap ∧
    ((∃ m, B = some (b, m) ∧ p = o ∧ m ≤ o + len ∧ ∃ (arr : Array Value) (el : TypeId), w.heap[b]? = some (.cells arr el (0, 0)) ∧ o + cap ≤ arr.size) ∨
     (w1.heap.size ≤ b ∧ ∃ (arr : Array Value) (el : TypeId), w.heap[b]? = some (.cells arr el (0, 0)) ∧ p = 0 ∧ cap ≤ arr.size))
theorem Grown.push {w w2 w3 : World} {B : Option (Nat × Nat)} (h : Grown w w2 B) (arr : Array Value) (e : TypeId) (hh : w3.heap = w2.heap.push (.cells arr e)) (h1 : w3.os = w2.os) (h2 : w3.tape = w2.tape) (h3 : w3.output = w2.output) (hlt : ∀ b m, B = some (b, m) → b < w2.heap.size) : Grown w w3 B := by
  refine ⟨by rw [hh, Array.size_push]; have := h.size; omega, fun k hk hb => ?_, fun b m hb => ?_, h1.trans h.os, h2.trans h.tape, h3.trans h.output⟩
  · rw [← h.same k hk hb, hh, Array.getElem?_push, if_neg (by have := h.size; omega)]
  · obtain ⟨a1, a2, el, r1, r2, r3, r4⟩ := h.row b m hb
    have := hlt b m hb
    exact ⟨a1, a2, el, r1, by rw [hh, Array.getElem?_push, if_neg (by omega)]; exact r2, r3, r4⟩
theorem Grown.write {w w2 : World} {B : Option (Nat × Nat)} (h : Grown w w2 B) {b x : Nat} {u : List Value} {arr : Array Value} {el : TypeId} (hb : w2.heap[b]? = some (.cells arr el (0, 0))) (hfit : x + u.length ≤ arr.size)
    (hok : (∃ m, B = some (b, m) ∧ m ≤ x) ∨ w.heap.size ≤ b) : Grown w (w2.setCells b x u) B := by
  obtain ⟨arr', g1, g2, g3, g4, g5, g6, g7, g8⟩ := setCells_spec b u x w2 arr el (0, 0) hb hfit
  refine ⟨by rw [g5]; exact h.size, fun k hk hB => ?_, fun b' m hB => ?_, g6.trans h.os, g7.trans h.tape, g8.trans h.output⟩
  · rw [g4 k (fun q => by
      subst q
      rcases hok with ⟨m, q, -⟩ | q
      · exact hB k m q rfl
      · omega)]
    exact h.same k hk hB
  · obtain ⟨a1, a2, el', r1, r2, r3, r4⟩ := h.row b' m hB
    by_cases hbb : b' = b
    · subst hbb
      rw [hb] at r2; cases r2
      refine ⟨a1, arr', _, r1, g1, by rw [g2]; exact r3, fun k hk => ?_⟩
      have hmx : m ≤ x := by
        rcases hok with ⟨m', q, hm⟩ | q
        · rw [hB] at q; cases q; exact hm
        · have : b' < w.heap.size := by
            rcases Nat.lt_or_ge b' w.heap.size with z | z
            · exact z
            · rw [Array.getElem?_eq_none z] at r1; cases r1
          omega
      rw [g3 k, if_neg (by omega)]
      exact r4 k hk
    · exact ⟨a1, a2, el', r1, by rw [g4 b' hbb]; exact r2, r3, r4⟩
/-- One byte more behind the grown row. -/
theorem app_step {P : Program} {w1 w : World} {B : Option (Nat × Nat)} {o len : Nat} {c x u : Value} {t ty e : TypeId} {i : TypeInfo} {z : Value} (ht : P.underlying t = some (.slice e)) (hi : P.info? e = some i) (hz : i.zero = some z) (hs1 : i.size = 1) (hzc : z.cells.size = 1)
    (hby : 0 < i.bytes) (hfit : (len + 1) * i.bytes < 140737488355328) (h : Grown w1 w B) (hBl : ∀ b m, B = some (b, m) → b < w.heap.size) (hA : GAt w1 w B o len c) (hx : Src P i.size t x 1 [u] w) :
    ∃ c' w', (Builtin.append_ #[t, t] ty #[c, x]).run P w = .ok c' w' ∧ Grown w1 w' B ∧ GAt w1 w' B o (len + 1) c' ∧ w.heap.size ≤ w'.heap.size := by
  have h1 : len + 1 < 140737488355328 := by
    rcases Nat.lt_or_ge (len + 1) 140737488355328 with q | q
    · exact q
    · have := Nat.mul_le_mul q hby; omega
  have grow : ∀ (base : Option Addr) (cap : Nat) (olds : List Value), olds.length = len → cap < len + 1 → (Builtin.firstCells i.size len (.slice base len cap)).run P w.drew = .ok olds.toArray w.drew → c = .slice base len cap →
      ∃ c' w', (Builtin.append_ #[t, t] ty #[c, x]).run P w = .ok c' w' ∧ Grown w1 w' B ∧ GAt w1 w' B o (len + 1) c' ∧ w.heap.size ≤ w'.heap.size := by
    intro base cap olds hol hc hold hcc
    have hrun := run_append_grow_src (P := P) w t t ty e i z ht hi hz base len cap olds hold x 1 [u] hx hc (by omega) (growslice_fits hc (by omega))
    have hcap := grownCap_ge w (len + 1) cap e
    subst hcc
    refine ⟨_, _, hrun, h.push _ e rfl rfl rfl rfl hBl, .inr ⟨w.heap.size, 0, _, rfl, hcap, .inr ⟨h.size, _, e, Array.getElem?_push_size, rfl, ?_⟩⟩, ?_⟩
    · have e1 : (Builtin.zeroCells z.cells (grownCap w (len + 1) cap e - (len + 1))).size = grownCap w (len + 1) cap e - (len + 1) := by
        unfold Builtin.zeroCells; simp [hzc]
      simp only [Array.size_append, List.size_toArray, List.length_append, e1, hol, List.length_singleton]
      omega
    · show w.heap.size ≤ (w.heap.push _).size
      rw [Array.size_push]; omega
  rcases hA with ⟨h0, base, hc⟩ | ⟨b, p, cap, hc, hlc, hrow⟩
  · subst h0
    cases base with
    | none => exact grow none 0 [] rfl (by omega) (by simpa using run_firstCells_none (P := P) w.drew i.size 0 0 0) hc
    | some ad => exact grow (some ad) 0 [] rfl (by omega) (run_firstCells_some w.drew i.size 0 ad 0 0 [] (by simp) fun j v hv => by simp at hv) hc
  · obtain ⟨arr, el, hb, hpc⟩ : ∃ (arr : Array Value) (el : TypeId), w.heap[b]? = some (.cells arr el (0, 0)) ∧ p + cap ≤ arr.size := by
      rcases hrow with ⟨m, -, hp, -, arr, el, r1, r2⟩ | ⟨-, arr, el, r1, hp, r2⟩
      · exact ⟨arr, el, r1, by omega⟩
      · exact ⟨arr, el, r1, by omega⟩
    by_cases hroom : len + 1 ≤ cap
    · have hcells : ∀ j, j < [u].length → (w.cell? ⟨b, p + len * i.size + j, none⟩).isSome = true := by
        intro j hj
        simp only [List.length_singleton] at hj
        unfold World.cell?
        simp only [hb]
        have : p + len * i.size + j < arr.size := by rw [hs1]; omega
        simp [this]
      have hfroz : ∀ j, j < [u].length → w.frozen? ⟨b, p + len * i.size + j, none⟩ = false := fun j _ => by unfold World.frozen?; simp [hb]
      have hrun := run_append_room_src (P := P) w t t ty e i ht hi b p len cap x 1 [u] hx hroom hcells hfroz
      rw [hs1, Nat.mul_one] at hrun
      obtain ⟨arr', g1, g2, -, -, g5, -, -, -⟩ := setCells_spec b [u] (p + len) w arr el (0, 0) hb (by simp; omega)
      subst hc
      refine ⟨_, _, hrun, h.write hb (by simp; omega) ?_, .inr ⟨b, p, cap, rfl, hroom, ?_⟩, by rw [g5]; exact Nat.le_refl _⟩
      · rcases hrow with ⟨m, r0, hp, hm, -⟩ | ⟨r0, -⟩
        · exact .inl ⟨m, r0, by omega⟩
        · exact .inr r0
      · rcases hrow with ⟨m, r0, hp, hm, -⟩ | ⟨r0, arr2, el2, r1, hp, r2⟩
        · exact .inl ⟨m, r0, hp, by omega, arr', el, g1, by rw [g2]; omega⟩
        · exact .inr ⟨r0, arr', el, g1, hp, by rw [g2]; omega⟩
    · refine grow (some ⟨b, p, none⟩) cap ((List.range len).map fun j => arr.getD (p + j) Go.undef) (by simp) (by omega) ?_ hc
      refine run_firstCells_some w.drew i.size len ⟨b, p, none⟩ len cap _ (by simp [hs1]) fun j v hv => ?_
      rw [List.getElem?_map, Option.map_eq_some_iff] at hv
      obtain ⟨j', hj', rfl⟩ := hv
      have hjl : j < len := by
        rcases Nat.lt_or_ge j len with q | q
        · exact q
        · rw [List.getElem?_eq_none (by simpa using q)] at hj'; cases hj'
      rw [List.getElem?_range hjl] at hj'
      cases hj'
      rw [add_mk]
      have hb' : w.drew.heap[b]? = some (.cells arr el (0, 0)) := hb
      unfold World.cell?
      simp only [hb']
      have hlt : p + j < arr.size := by omega
      simp [hlt]
theorem wp_ran {P : Program} {o : Oper} {a : Act} {w w' : World} {c : Value} {K : Act → World → Prop} {Q : Exit → Act → World → Prop} (h : (execOp a.eval o).run P w = .ok (.value c) w') (hK : K (a.put o.dst c) w') : o.wp P a w K Q := by
  unfold Oper.wp; rw [h]; exact hK
theorem ran_move {P : Program} {o : Oper} {a : Act} {w : World} {x : Operand} (h : o.op = .move x ∨ o.op = .assign x) : (execOp a.eval o).run P w = .ok (.value (a.eval x)) w := by
  rcases h with h | h <;> simp [execOp, h]
theorem ran_lit {P : Program} {o : Oper} {a : Act} {w : World} {t e : TypeId} {x : Operand} {k : IntKind} {u : Int} (h : o.op = .buildSlice t 1 #[(0, x)]) (hu : P.underlying t = some (.slice e)) (hs : sizeOf? P e = some 1) (hz : zeroV P e = some [.int k 0]) (hx : a.eval x = .int k u) :
    ∃ arr : Array Value, (execOp a.eval o).run P w = .ok (.value (.slice (some ⟨w.heap.size, 0, none⟩) 1 1)) { w with heap := w.heap.push (.cells arr e) } ∧ arr[0]? = some (.int k u) := by
  obtain ⟨arr, h1, h2, h3⟩ := list_place (P := P) (w := w) (G := ⟨fun _ _ => none, fun _ _ => False⟩) (t := t) (e := e) (n := 1) (sz := 1) (parts := [(0, .int k u)]) (cs := [.int k u]) (z := [.int k 0]) hu hs hz (by omega) (by omega) (by simp [fillV, zeros, setCells]) (cparts := #[(0, .int k u)]) rfl (fun j hj hj' => by
    have : j = 0 := by simpa using hj
    subst this
    exact .int)
  refine ⟨arr, ?_, ?_⟩
  · simp [execOp, h, hx]
    rw [h1]; rfl
  · have hlt : 0 < arr.size := by rw [h2]; simp
    have q := h3 0 (by simp)
    have e := q.int_inv
    rw [Array.getD_eq_getD_getElem?, Array.getElem?_eq_getElem hlt] at e
    rw [Array.getElem?_eq_getElem hlt]
    simpa using e
theorem put_size {a : Act} {d : Option Nat} {c : Value} : (a.put d c).tmps.size = a.tmps.size := by cases d <;> simp [Act.put]
theorem put_same {a : Act} {d : Nat} {c : Value} (h : d < a.tmps.size) : (a.put (some d) c).eval (.tmp d) = c := by simp [Act.put, Act.eval, Array.getD, h]
theorem put_other {a : Act} {d t : Nat} {c : Value} (h : d ≠ t) : (a.put (some d) c).eval (.tmp t) = a.eval (.tmp t) := by
  simp only [Act.put, Act.eval, Array.getD_eq_getD_getElem?, Array.getElem?_setIfInBounds]
  rw [if_neg h]
theorem ops_at {P : Program} {ops : Array Oper} {Q : Exit → Act → World → Prop} {i : Nat} {rest : List Nat} {o : Oper} {a : Act} {w : World} (h : ops[i]? = some o) (hg : o.guard = none) (hw : o.wp P a w (wpOps P ops Q rest) Q) : wpOps P ops Q (i :: rest) a w := by
  rw [wpOps_cons]
  unfold wpOp
  rw [h]
  simp only
  have : Region.wanted o (yielded ops a.tmps) = true := by unfold Region.wanted; rw [hg]
  rw [if_pos this]
  exact .inl hw
theorem GAt.push {w1 w : World} {BB : Option (Nat × Nat)} {o len : Nat} {c : Value} (h : GAt w1 w BB o len c) (arr : Array Value) (e : TypeId) : GAt w1 { w with heap := w.heap.push (.cells arr e) } BB o len c := by
  have old : ∀ (b : Nat) (x : Obj), w.heap[b]? = some x → (w.heap.push (.cells arr e))[b]? = some x := fun b x hb => by
    have hlt : b < w.heap.size := by
      rcases Nat.lt_or_ge b w.heap.size with q | q
      · exact q
      · rw [Array.getElem?_eq_none q] at hb; cases hb
    rw [Array.getElem?_push, if_neg (by omega)]; exact hb
  rcases h with h | ⟨b, p, cap, hc, hl, h⟩
  · exact .inl h
  · refine .inr ⟨b, p, cap, hc, hl, ?_⟩
    rcases h with ⟨m, r0, hp, hm, arr2, el, r1, r2⟩ | ⟨r0, arr2, el, r1, hp, r2⟩
    · exact .inl ⟨m, r0, hp, hm, arr2, el, old _ _ r1, r2⟩
    · exact .inr ⟨r0, arr2, el, old _ _ r1, hp, r2⟩
/-- The last three operations of the loop's region: one element more behind the grown row. -/
theorem app_ops {P : Program} {ops : Array Oper} {w1 w : World} {a : Act} {BB : Option (Nat × Nat)} {o len : Nat} {c : Value} {t e : TypeId} {i : TypeInfo} {z : Value} {k : IntKind} {u : Int} {g A C D E i3 i4 i5 : Nat} {o3 o4 o5 : Oper} {rest : List Nat} {Q : Exit → Act → World → Prop}
    (ht : P.underlying t = some (.slice e)) (hi : P.info? e = some i) (hz : i.zero = some z) (hs1 : i.size = 1) (hzc : z.cells.size = 1) (hby : 0 < i.bytes) (hfit : (len + 1) * i.bytes < 140737488355328) (hsz : sizeOf? P e = some 1) (hzv : zeroV P e = some [.int k 0])
    (s3 : ops[i3]? = some o3) (s4 : ops[i4]? = some o4) (s5 : ops[i5]? = some o5) (n3 : o3.guard = none) (n4 : o4.guard = none) (n5 : o5.guard = none)
    (q3 : o3.op = .buildSlice t 1 #[(0, .tmp C)]) (q4 : o4.op = .call { callee := .builtin .append, args := #[.tmp A, .tmp D], argTypes := #[t, t] }) (q5 : o5.op = .assign (.tmp E))
    (d3 : o3.dst = some D) (d4 : o4.dst = some E) (d5 : o5.dst = some g) (hD : D < a.tmps.size) (hE : E < a.tmps.size) (hAD : A ≠ D)
    (ha : a.eval (.tmp A) = c) (hc : a.eval (.tmp C) = .int k u) (h : Grown w1 w BB) (hBl : ∀ b m, BB = some (b, m) → b < w1.heap.size) (hG : GAt w1 w BB o len c)
    (hQ : ∀ c' v w', (∀ b, v ≠ .bool b) → Grown w1 w' BB → GAt w1 w' BB o (len + 1) c' → wpOps P ops Q rest (((a.put (some D) v).put (some E) c').put (some g) c') w') :
    wpOps P ops Q (i3 :: i4 :: i5 :: rest) a w := by
  obtain ⟨arr, r3, r4⟩ := ran_lit (P := P) (a := a) (w := w) (u := u) q3 ht hsz hzv hc
  refine ops_at (o := o3) s3 n3 (wp_ran r3 ?_)
  rw [d3]
  have hgp := h.push (w3 := { w with heap := w.heap.push (.cells arr e) }) arr e rfl rfl rfl rfl (fun b m hb => by have := hBl b m hb; have := h.size; omega)
  have hsrc : Src P i.size t (.slice (some ⟨w.heap.size, 0, none⟩) 1 1) 1 [.int k u] { w with heap := w.heap.push (.cells arr e) } := by
    refine Src.ofSlice _ ht ⟨w.heap.size, 0, none⟩ 1 1 [.int k u] (by simp [hs1]) (fun j v hj => ?_) (fun v hv => by rw [List.mem_singleton.1 hv]; rfl)
    have hj0 : j = 0 := by
      rcases Nat.eq_zero_or_pos j with q | q
      · exact q
      · rw [List.getElem?_eq_none (by simp; omega)] at hj; cases hj
    subst hj0
    cases hj
    rw [add_mk]
    unfold World.cell?
    simp only [Array.getElem?_push_size]
    exact r4
  obtain ⟨c', w', r5, k1, k2, k3⟩ := app_step (ty := o4.type) ht hi hz hs1 hzc hby hfit hgp (fun b m hb => by have := hBl b m hb; have := hgp.size; omega) (hG.push arr e) hsrc
  obtain ⟨x, hx⟩ : ∃ x, x = a.put (some D) (.slice (some ⟨w.heap.size, 0, none⟩) 1 1) := ⟨_, rfl⟩
  have ea : x.eval (.tmp A) = c := by rw [hx, put_other (Ne.symm hAD), ha]
  have ed : x.eval (.tmp D) = .slice (some ⟨w.heap.size, 0, none⟩) 1 1 := by rw [hx, put_same hD]
  rw [← hx]
  refine ops_at (o := o4) s4 n4 (wp_ran (append_prep (c := c') (w' := w') q4 rfl rfl (by rw [ea, ed]; exact r5)) ?_)
  rw [d4]
  refine ops_at (o := o5) s5 n5 (wp_ran (ran_move (.inr q5)) ?_)
  rw [d5, put_same (by rw [hx]; simp only [put_size]; exact hE), hx]
  exact hQ c' _ w' (fun b => by simp) k1 k2
theorem ran_bin {P : Program} {o : Oper} {a : Act} {w : World} {op : BinOp} {t u : TypeId} {x y : Operand} {k k' : IntKind} {n m : Int} {v : V} (h : o.op = .binOp op t x y u) (hx : a.eval x = .int k n) (hy : a.eval y = .int k' m) (hv : intBin op k n k' m = some v) :
    ∃ r, (execOp a.eval o).run P w = .ok (.value r) w ∧ ((∃ k n, v = .int k n ∧ r = .int k n) ∨ (∃ q, v = .bool q ∧ r = .bool q) ∨ (∃ s, v = .str s ∧ r = .string s)) := by
  obtain ⟨r, h1, h2⟩ := bin_run (P := P) (w := w) (G := ⟨fun _ _ => none, fun _ _ => False⟩) (op := op) (t := t) (x := .int k n) (y := .int k' m) (c := .int k n) (d := .int k' m) .int .int (v := v) (by unfold binV; exact hv) x y
  refine ⟨r, ?_, h2⟩
  simp [execOp, h, hx, hy] at h1 ⊢
  rw [eqGuard_run (by simp) (by simp), Result.andThen_ok] at h1 ⊢
  rw [h1]; rfl
theorem ran_conv {P : Program} {o : Oper} {a : Act} {w : World} {t u : TypeId} {x : Operand} {k k' : IntKind} {n : Int} (h : o.op = .convert t u x) (hx : a.eval x = .int k n) (ht : P.underlying t = some (.int k)) (hu : P.underlying u = some (.int k')) :
    (execOp a.eval o).run P w = .ok (.value (.int k' (k'.wrap n))) w := by
  simp [execOp, h, hx, convert, run_underlying ht, run_underlying hu, Conv.intToInt]
end Go.Ab
