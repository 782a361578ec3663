import Derived.Test.YtdfcbophcfjakaaAb9
import Derived.Deep.AppendSrc
import Derived.Deep.Upon
import Derived.Laws.AppendOwn
set_option linter.unusedSimpArgs false
set_option linter.unusedVariables false
set_option linter.unusedSectionVars false
/- Appending. -/
namespace Go.Ab
theorem setCells_spec (b : Nat) : ∀ (vs : List Value) (o : Nat) (w : World) (arr : Array Value) (el : TypeId) (fz : Nat × Nat), w.heap[b]? = some (.cells arr el fz) → o + vs.length ≤ arr.size →
    ∃ arr', (w.setCells b o vs).heap[b]? = some (.cells arr' el fz) ∧ arr'.size = arr.size ∧ (∀ k, arr'.getD k Go.undef = if o ≤ k ∧ k < o + vs.length then vs.getD (k - o) Go.undef else arr.getD k Go.undef) ∧
      (∀ b', b' ≠ b → (w.setCells b o vs).heap[b']? = w.heap[b']?) ∧ (w.setCells b o vs).heap.size = w.heap.size ∧ (w.setCells b o vs).os = w.os ∧ (w.setCells b o vs).tape = w.tape ∧ (w.setCells b o vs).output = w.output := by
  intro vs
  induction vs with
  | nil => intro o w arr el fz h hl; exact ⟨arr, h, rfl, fun k => by rw [if_neg (by simp only [List.length_nil]; omega)], fun _ _ => rfl, rfl, rfl, rfl, rfl⟩
  | cons v vs ih =>
    intro o w arr el fz h hl
    rw [List.length_cons] at hl
    have h1 : (w.setCell ⟨b, o, none⟩ v).heap[b]? = some (.cells (arr.setIfInBounds o v) el fz) := by
      simp only [World.setCell, Array.getElem?_modify, if_true, h]; rfl
    obtain ⟨arr', g1, g2, g3, g4, g5, g6, g7, g8⟩ := ih (o + 1) (w.setCell ⟨b, o, none⟩ v) _ el fz h1 (by rw [Array.size_setIfInBounds]; omega)
    have e : w.setCells b o (v :: vs) = (w.setCell ⟨b, o, none⟩ v).setCells b (o + 1) vs := rfl
    rw [e]
    refine ⟨arr', g1, by rw [g2, Array.size_setIfInBounds], fun k => ?_, fun b' hb => ?_, by rw [g5]; simp [World.setCell], g6, g7, g8⟩
    · rw [g3 k, List.length_cons]
      by_cases c1 : o + 1 ≤ k ∧ k < o + 1 + vs.length
      · rw [if_pos c1, if_pos (by omega), show k - o = (k - (o + 1)) + 1 by omega]; rfl
      · rw [if_neg c1]
        by_cases c2 : k = o
        · subst c2
          rw [if_pos (by omega), Nat.sub_self, getD_eq (by rw [Array.size_setIfInBounds]; omega)]
          simp
        · rw [if_neg (by omega)]
          simp only [Array.getD_eq_getD_getElem?, Array.getElem?_setIfInBounds]
          rw [if_neg (by omega)]
    · rw [g4 b' hb]
      simp only [World.setCell, Array.getElem?_modify]
      rw [if_neg (fun h => hb h.symm)]
section
variable {P : Program} {G : Gh} {tl : Nat → Nat → Option (Nat × Nat)} {E : Nat} {toks : List Nat} {objs : List AO} {w : World} {env : Nat → V} {a : Act}
/-- A world in which one block has turned, where nothing is stable. -/
structure Wrote (G : Gh) (b : Nat) (arr arr' : Array Value) (el : TypeId) (w w' : World) : Prop where
  was : w.heap[b]? = some (.cells arr el (0, 0))
  now : w'.heap[b]? = some (.cells arr' el (0, 0))
  size : arr'.size = arr.size
  same : ∀ x, G.st b x → arr'.getD x Go.undef = arr.getD x Go.undef
  other : ∀ b', b' ≠ b → w'.heap[b']? = w.heap[b']?
  hsize : w'.heap.size = w.heap.size
  os : w'.os = w.os
  tape : w'.tape = w.tape
  output : w'.output = w.output
theorem Wrote.wle {b : Nat} {arr arr' : Array Value} {el : TypeId} {w w' : World} (h : Wrote G b arr arr' el w w') : WLe G w w' := by
  refine ⟨by rw [h.hsize]; exact Nat.le_refl _, fun b' x hx => ?_, fun b' arr2 el2 fz2 hb => ?_, h.os, h.tape, h.output, fun b' o hb ho => ?_⟩
  · unfold World.cell?
    by_cases hb : b' = b
    · subst hb
      simp only [h.was, h.now]
      have := h.same x hx
      rw [Array.getD_eq_getD_getElem?, Array.getD_eq_getD_getElem?] at this
      rcases Nat.lt_or_ge x arr.size with h1 | h1
      · have h2 : x < arr'.size := by rw [h.size]; exact h1
        rw [Array.getElem?_eq_getElem h1, Array.getElem?_eq_getElem h2] at this ⊢
        simp only [Option.getD_some] at this
        rw [this]
      · rw [Array.getElem?_eq_none h1, Array.getElem?_eq_none (by rw [h.size]; exact h1)]
    · simp only [h.other b' hb]
  · by_cases hbb : b' = b
    · subst hbb
      rw [h.was] at hb; cases hb
      exact ⟨arr', (0, 0), h.now, h.size⟩
    · exact ⟨arr2, fz2, (h.other b' hbb).trans hb, rfl⟩
  · have hbb : b' ≠ b := by rintro rfl; rw [h.was] at hb; cases hb; cases ho
    exact (h.other b' hbb).trans hb
theorem oneCell_vr {v : V} {c : Value} (h : VR G w v c) (ho : oneCell v = true) : c.oneCell' = true := by
  cases h <;> first | rfl | (simp [oneCell] at ho)
/-- What an append takes. -/
theorem src_of {d : TypeDesc} {t2 : TypeId} {n : Nat} {y : Operand} {ys : List V} (he : EnvR G tl E w env a) (hs : Store G tl E toks objs w) (hn : 0 < n) (hd : P.underlying t2 = some d) (h : srcOf d objs n (opd env y) = some ys) :
    ∃ m news, Src P n t2 (a.eval y) m news w ∧ news.length = ys.length ∧ ys.length = m * n ∧ ∀ j (h1 : j < ys.length) (h2 : j < news.length), VR G w (ys[j]'h1) (news[j]'h2) := by
  have hy := opd_vr he y
  -- cells that stand in memory, from an address on
  have mem : ∀ (q : Addr) (len cap : Nat) (cs : List V) (f : Nat → Value), a.eval y = .slice (some q) len cap → cs.length = len * n → cs.all oneCell = true → (∀ j, j < cs.length → w.cell? (q.add j) = some (f j)) → (∀ j (h : j < cs.length), VR G w (cs[j]'h) (f j)) → (∃ e', d = .slice e') →
      ∃ m news, Src P n t2 (a.eval y) m news w ∧ news.length = cs.length ∧ cs.length = m * n ∧ ∀ j (h1 : j < cs.length) (h2 : j < news.length), VR G w (cs[j]'h1) (news[j]'h2) := by
    intro q len cap cs f hq hl ho hc hv ⟨e', hde⟩
    rw [List.all_eq_true] at ho
    subst hde
    refine ⟨len, (List.range cs.length).map f, ?_, by simp, hl, fun j h1 h2 => by simp only [List.getElem_map, List.getElem_range]; exact hv j h1⟩
    rw [hq]
    refine Src.ofSlice w hd q len cap _ (by simp [hl]) (fun j u hu => ?_) (fun u hu => ?_)
    · rw [List.getElem?_map, Option.map_eq_some_iff] at hu
      obtain ⟨i, hi, rfl⟩ := hu
      have : i = j ∧ j < cs.length := by
        rcases Nat.lt_or_ge j cs.length with h1 | h1
        · rw [List.getElem?_range h1] at hi; exact ⟨(Option.some.inj hi).symm, h1⟩
        · rw [List.getElem?_eq_none (by simpa using h1)] at hi; cases hi
      obtain ⟨rfl, h1⟩ := this
      exact hc i h1
    · obtain ⟨i, hi, rfl⟩ := List.mem_map.1 hu
      rw [List.mem_range] at hi
      exact oneCell_vr (hv i hi) (ho _ (List.getElem_mem hi))
  unfold srcOf at h
  split at h
  · cases h
  · rename_i e' _
    cases hr : rowOf objs n (opd env y) with
    | none => rw [hr] at h; cases h
    | some zs =>
      rw [hr] at h
      simp only at h
      split at h <;> cases h
      rename_i hno ho
      unfold rowOf at hr
      split at hr
      · rename_i hk; cases hr
        rw [hk] at hy
        refine ⟨0, [], ?_, rfl, by simp, fun j h1 => absurd h1 (by simp)⟩
        rw [hy.nils_inv]
        exact Src.ofNil w hd 0
      · rename_i k cs len hk
        rw [hk] at hy
        split at hr <;> cases hr
        rename_i hl
        obtain ⟨q, cap, f, e, _, hst, hc, hv⟩ := hy.lst_inv
        exact mem q len cap _ f e hl ho hc hv ⟨e', rfl⟩
      · rename_i id ver off len e2 hk
        rw [hk] at hy
        split at hr
        case isFalse => cases hr
        rename_i he2; subst he2
        cases hg : getObj objs id ver with
        | none => rw [hg] at hr; cases hr
        | some cs =>
          rw [hg] at hr
          simp only at hr
          split at hr <;> cases hr
          rename_i hlen
          obtain ⟨b, o, arr, el, h1, h2, h3, h4, h5, h6⟩ := obj_cell hs hg
          obtain ⟨b2, o2, cap, p, arr2, el2, fz2, e, g1, g2, g3, g4, g5⟩ := hy.ref_inv
          rw [h2] at g1; cases g1
          have hl2 : ((cs.drop off).take (len * n)).length = len * n := by rw [List.length_take, List.length_drop]; omega
          refine mem ⟨b, p, none⟩ len cap _ (fun j => arr.getD (o + (off + j)) Go.undef) e hl2 ho (fun j hj => ?_) (fun j hj => ?_) ⟨e', rfl⟩
          · rw [hl2] at hj
            have hcap : 0 < cap := by
              rcases Nat.eq_zero_or_pos len with h0 | h0
              · rw [h0, Nat.zero_mul] at hj; omega
              · omega
            rw [g4 hcap, add_mk, Nat.add_assoc, ← add_mk]
            exact h4 _ (by omega)
          · rw [List.getElem_take, List.getElem_drop]
            exact h5 _ _
      · rename_i s hk; exact absurd hk (hno s)
      · cases hr
  · rename_i s hk
    rw [hk] at hy
    simp only [rowOf] at h
    split at h <;> cases h
    rename_i h1; subst h1
    rw [hy.str_inv]
    refine ⟨s.size, byteCells s, Src.ofString w hd s, ?_, ?_, fun j h1 h2 => ?_⟩
    · rw [byteCells_length]; simp
    · simp
    · simp only [byteCells, List.getElem_map]; exact .int
  · cases h
theorem zcells (z : Value) (n : Nat) : True := trivial
/-- An append that has no room: a new row. -/
theorem grow_row {t t2 ty e : TypeId} {i : TypeInfo} {z : Value} {n m len cap : Nat} {base : Option Addr} {x : Value} {news : List Value} {cs ys : List V} (ht : P.underlying t = some (.slice e)) (hi : P.info? e = some i) (hz : i.zero = some z) (hin : i.size = n)
    (hsrc : Src P n t2 x m news w) (hnl : news.length = ys.length) (hym : ys.length = m * n) (hyv : ∀ j (h1 : j < ys.length) (h2 : j < news.length), VR G w (ys[j]'h1) (news[j]'h2))
    (olds : List Value) (hol : olds.length = cs.length) (hcl : cs.length = len * n) (hold : (Builtin.firstCells n len (.slice base len cap)).run P w.drew = .ok olds.toArray w.drew) (hov : ∀ j (h1 : j < cs.length) (h2 : j < olds.length), VR G w (cs[j]'h1) (olds[j]'h2))
    (hg : cap < len + m) (hbytes : 0 < i.bytes) (hfit : (len + m) * i.bytes < 140737488355328) (hzc : z.cells.size = n) :
    ∃ arr cap', (Builtin.append_ #[t, t2] ty #[.slice base len cap, x]).run P w = .ok (.slice (some ⟨w.heap.size, 0, none⟩) (len + m) cap') { w.drew with heap := w.heap.push (.cells arr e) } ∧ len + m ≤ cap' ∧ cap' * n ≤ arr.size ∧
      ∀ j (h : j < (cs ++ ys).length), VR G w ((cs ++ ys)[j]'h) (arr.getD j Go.undef) := by
  subst hin
  have h1 : len + m < 140737488355328 := by
    rcases Nat.lt_or_ge (len + m) 140737488355328 with h | h
    · exact h
    · have := Nat.mul_le_mul h hbytes; omega
  have hrun := run_append_grow_src (P := P) w t t2 ty e i z ht hi hz base len cap olds hold x m news hsrc hg (by omega) (growslice_fits hg (by omega))
  have hcap := grownCap_ge w (len + m) cap e
  refine ⟨_, _, hrun, hcap, ?_, fun j hj => ?_⟩
  · have e1 : (Builtin.zeroCells z.cells (grownCap w (len + m) cap e - (len + m))).size = (grownCap w (len + m) cap e - (len + m)) * i.size := by
      unfold Builtin.zeroCells; simp [hzc]
    have e2 : (len + m) * i.size + (grownCap w (len + m) cap e - (len + m)) * i.size = grownCap w (len + m) cap e * i.size := by
      rw [← Nat.add_mul]; congr 1; omega
    simp only [Array.size_append, List.size_toArray, List.length_append, e1]
    rw [Nat.add_mul] at e2
    omega
  · have e1 : ((olds ++ news).toArray ++ Builtin.zeroCells z.cells (grownCap w (len + m) cap e - (len + m))).getD j Go.undef = (olds ++ news).getD j Go.undef := by
      rw [Array.getD_eq_getD_getElem?, Array.getElem?_append_left (by simp only [List.size_toArray, List.length_append] at hj ⊢; omega)]
      simp [List.getD]
    rw [e1]
    rw [List.length_append] at hj
    rcases Nat.lt_or_ge j cs.length with h2 | h2
    · rw [List.getElem_append_left h2]
      have : (olds ++ news).getD j Go.undef = olds[j]'(by omega) := by
        rw [List.getD_eq_getElem?_getD, List.getElem?_append_left (by omega), List.getElem?_eq_getElem (by omega)]; rfl
      rw [this]; exact hov _ _ _
    · rw [List.getElem_append_right h2]
      have : (olds ++ news).getD j Go.undef = news[j - cs.length]'(by omega) := by
        rw [List.getD_eq_getElem?_getD, List.getElem?_append_right (by omega), hol, List.getElem?_eq_getElem (by omega)]; rfl
      rw [this]; exact hyv _ _ _
theorem drew_wle : WLe G w w.drew := ⟨Nat.le_refl _, fun _ _ _ => rfl, fun _ arr _ fz h => ⟨arr, fz, h, rfl⟩, rfl, rfl, rfl, fun _ _ h _ => h⟩
theorem drew_store (hs : Store G tl E toks objs w) : Store G tl E toks objs w.drew := by
  refine ⟨fun id cs ver hi => ?_, hs.vers, hs.news, fun t n ht => by obtain ⟨b, o, arr, el, h1, h2, h3, h4⟩ := hs.toksR t n ht; exact ⟨b, o, arr, el, h1, ⟨h2.at_, h2.fit⟩, h3, h4⟩, hs.tnew, hs.tnews, hs.oo, hs.tt, hs.ot, hs.lt, hs.tbl, hs.maps.keep (GLe.refl G) drew_wle (fun _ _ _ h => h) (fun _ _ _ _ => rfl) (fun _ _ _ _ _ _ _ _ _ h => h) (fun _ _ h => h)⟩
  obtain ⟨b, o, arr, el, h1, h2, h3, h4⟩ := hs.cellsR id cs ver hi
  exact ⟨b, o, arr, el, h1, ⟨h2.at_, h2.fit⟩, fun j hj => (h3 j hj).mono (GLe.refl G) drew_wle, h4⟩
end
end Go.Ab
