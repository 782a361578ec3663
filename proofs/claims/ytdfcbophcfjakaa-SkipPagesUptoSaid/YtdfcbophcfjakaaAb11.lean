import Derived.Test.YtdfcbophcfjakaaAb10
import Derived.IntWalk
set_option linter.unusedSimpArgs false
set_option linter.unusedVariables false
set_option linter.unusedSectionVars false
/- Appending to rows that stand with their contents. -/
namespace Go.Ab
section
variable {P : Program} {G : Gh} {tl : Nat → Nat → Option (Nat × Nat)} {E : Nat} {toks : List Nat} {objs : List AO} {w : World} {env : Nat → V} {a : Act}
/-- ResOk from a world behind a draw. -/
theorem ResOk.ofDrew {v : V} {toks' : List Nat} {objs' : List AO} {c : Value} {w' : World} {G' : Gh} {tl' : Nat → Nat → Option (Nat × Nat)} (h : ResOk G tl E objs w.drew v toks' objs' c w' G' tl') : ResOk G tl E objs w v toks' objs' c w' G' tl' :=
  ⟨h.vr, h.tk, h.gle, ⟨h.tle.old, h.tle.new⟩, drew_wle.trans (GLe.refl G) h.wle, h.store, h.fr, h.prov, h.stn⟩
def Gh.stabR (G : Gh) (b lo hi : Nat) : Gh := ⟨G.loc, fun b' x => G.st b' x ∨ (b' = b ∧ lo ≤ x ∧ x < hi)⟩
theorem GLe.stabR (G : Gh) (b lo hi : Nat) : GLe G (G.stabR b lo hi) := ⟨fun _ _ _ h => h, fun _ _ h => .inl h⟩
theorem fits_inv {t : TypeId} {n : Nat} (h : fits P t n = true) : ∃ i, P.info? t = some i ∧ 0 < i.size ∧ 0 < i.bytes ∧ n * i.bytes < 140737488355328 := by
  unfold fits at h
  split at h
  · rename_i i hi; exact ⟨i, hi, of_decide_eq_true h⟩
  · cases h
/-- A row of a token's, appended to in place. -/
theorem tok_room (hs : Store G tl E toks objs w) {k n len cap b o m : Nat} {cs ys : List V} {arr : Array Value} {el : TypeId} {news : List Value} (hk : toks[k]? = some cs.length) (htl : tl k cs.length = some (b, o)) (hcl : cs.length = len * n)
    (hhb : ∃ fz, w.heap[b]? = some (.cells arr el fz)) (hsz : o + cap * n ≤ arr.size) (hlc : len + m ≤ cap) (hym : ys.length = m * n) (hnl : news.length = ys.length) (hyv : ∀ j (h1 : j < ys.length) (h2 : j < news.length), VR G w (ys[j]'h1) (news[j]'h2))
    (hx : VR G w (.lst (.tok k n) cs len) (.slice (some ⟨b, o, none⟩) len cap)) :
    ResOk G tl E objs w (.lst (.tok k n) (cs ++ ys) (len + m)) (toks.set k (cs.length + ys.length)) objs (.slice (some ⟨b, o, none⟩) (len + m) cap) (w.setCells b (o + cs.length) news) (G.stabR b (o + cs.length) (o + cs.length + ys.length)) (newTl tl k (cs.length + ys.length) b o) ∧
    (∀ j, j < news.length → (w.cell? ⟨b, o + len * n + j, none⟩).isSome = true) ∧ (∀ j, j < news.length → w.frozen? ⟨b, o + len * n + j, none⟩ = false) := by
  obtain ⟨b1, o1, arr1, el1, t1, ⟨t2, t3⟩, t4, t5⟩ := hs.toksR k _ hk
  rw [htl] at t1; cases t1
  obtain ⟨fz, hhb⟩ := hhb
  rw [hhb] at t2; cases t2
  have hmul : (len + m) * n ≤ cap * n := Nat.mul_le_mul_right _ hlc
  rw [Nat.add_mul] at hmul
  obtain ⟨arr', g1, g2, g3, g4, g5, g6, g7, g8⟩ := setCells_spec b news (o + cs.length) w arr el (0, 0) hhb (by omega)
  have hwr : Wrote G b arr arr' el w (w.setCells b (o + cs.length) news) := ⟨hhb, g1, g2, fun x hx => by
    rw [g3 x, if_neg]
    intro hc
    exact t4 x (by omega) hx, g4, g5, g6, g7, g8⟩
  have hw := hwr.wle
  obtain ⟨q, qcap, f, e1, hl, hst, hc, hv⟩ := hx.lst_inv
  cases e1
  have hg := GLe.stabR G b (o + cs.length) (o + cs.length + ys.length)
  have hold : ∀ t n', toks[t]? = some n' → t ≠ k → newTl tl k (cs.length + ys.length) b o t n' = tl t n' := fun t n' _ h => newTl_old (.inl h)
  have hget : ∀ t n', (toks.set k (cs.length + ys.length))[t]? = some n' → (t ≠ k ∧ toks[t]? = some n') ∨ (t = k ∧ n' = cs.length + ys.length) := by
    intro t n' h
    by_cases ht : t = k
    · subst ht
      rw [List.getElem?_set_self (by rcases Nat.lt_or_ge t toks.length with h1 | h1; exact h1; rw [List.getElem?_eq_none h1] at hk; cases hk)] at h
      exact .inr ⟨rfl, (Option.some.inj h).symm⟩
    · rw [List.getElem?_set_ne (fun h => ht h.symm)] at h
      exact .inl ⟨ht, h⟩
  have hmono : ∀ t n' p, tl t n' = some p → newTl tl k (cs.length + ys.length) b o t n' = some p := by
    intro t n' p hp
    by_cases hc : t = k ∧ n' = cs.length + ys.length
    · obtain ⟨rfl, rfl⟩ := hc
      rw [newTl_new]
      rcases Nat.eq_zero_or_pos ys.length with h0 | h0
      · rw [h0, Nat.add_zero, htl] at hp; exact hp
      · rw [hs.tnew t _ hk _ (by omega)] at hp; cases hp
    · rw [newTl_old (by omega)]; exact hp
  have htb : ∀ b', TB (newTl tl k (cs.length + ys.length) b o) b' → TB tl b' := by
    rintro b' ⟨t, n', o', h⟩
    by_cases hc : t = k ∧ n' = cs.length + ys.length
    · obtain ⟨rfl, rfl⟩ := hc
      rw [newTl_new] at h; cases h; exact ⟨_, _, _, htl⟩
    · rw [newTl_old (by omega)] at h; exact ⟨t, n', o', h⟩
  have hlen : (cs ++ ys).length = cs.length + ys.length := List.length_append
  have hothers : ∀ b' o' arr2 el2 n', b' ≠ b → Own G w b' o' n' arr2 el2 → Own (G.stabR b (o + cs.length) (o + cs.length + ys.length)) (w.setCells b (o + cs.length) news) b' o' n' arr2 el2 := fun b' o' arr2 el2 n' hne h => ⟨(g4 b' hne).trans h.at_, h.fit⟩
  refine ⟨⟨?_, ?_, hg, ⟨hmono, fun b' hb => .inl (htb b' hb)⟩, hw, ?_, fun b' hb' _ => g4 b' (by omega), fun _ b' hb' => .inr hb', fun b x hb hx => hx.elim id (fun hq => absurd hq.1 (by omega))⟩, ?_, ?_⟩
  · refine .lst (fun j => if j < cs.length then f j else news.getD (j - cs.length) Go.undef) (by omega) (fun j hj => ?_) (fun j hj => ?_) (fun j hj => ?_)
    · rw [hlen] at hj
      by_cases h1 : j < cs.length
      · exact .inl (hst j h1)
      · exact .inr ⟨rfl, by show o + cs.length ≤ o + j; omega, by show o + j < _; omega⟩
    · rw [hlen] at hj
      by_cases h1 : j < cs.length
      · simp only [h1, if_true]; exact cell_kept hw.to0 (hst j h1) (hc j h1)
      · simp only [h1, if_false]
        rw [add_mk]
        unfold World.cell?
        simp only [g1]
        have h2 : o + j < arr'.size := by omega
        have := g3 (o + j)
        rw [if_pos (by omega), getD_eq h2, show o + j - (o + cs.length) = j - cs.length by omega] at this
        simp only [Option.isSome_none, Bool.false_eq_true, if_false, Array.getElem?_eq_getElem h2, this]
    · rw [hlen] at hj
      by_cases h1 : j < cs.length
      · simp only [h1, if_true]; rw [List.getElem_append_left h1]; exact (hv j h1).mono hg hw
      · simp only [h1, if_false]; rw [List.getElem_append_right (by omega)]
        have h2 : j - cs.length < news.length := by omega
        have : news.getD (j - cs.length) Go.undef = news[j - cs.length] := by rw [List.getD_eq_getElem?_getD, List.getElem?_eq_getElem h2]; rfl
        rw [this]; exact (hyv _ _ _).mono hg hw
  · refine ⟨⟨fun t e' cs' len' hv' => ?_, fun cs len hv' => ?_, fun e th cs len hv' => ?_⟩, fun vs as e => ?_⟩
    rotate_left
    · cases hv'
    · cases hv'
    · cases e
    cases hv'
    exact ⟨b, o, cap, arr', el, (0, 0), by rw [hlen, newTl_new], rfl, g1, by omega, by rw [hlen, hcl, hym, Nat.add_mul]⟩
  · refine ⟨?_, hs.vers, hs.news, ?_, ?_, ?_, hs.oo, ?_, ?_, ?_, ?_, hs.maps.keep hg hw (fun b' a c hb' => (g4 b' (by rintro rfl; rw [hhb] at hb'; cases hb')).trans hb') (fun _ _ _ _ => rfl) (fun _ _ b' x a c _ _ hb' hx => hx.elim id fun q => by have e := q.1; subst e; rw [hhb] at hb'; cases hb') (fun _ _ h => h)⟩
    · intro id cs' ver hi
      obtain ⟨b', o', arr2, el2, h1, h2, h3, h4⟩ := hs.cellsR id cs' ver hi
      have hne : b' ≠ b := by rintro rfl; exact hs.ot id cs' ver k _ _ _ _ hi hk h1 htl
      refine ⟨b', o', arr2, el2, h1, hothers _ _ _ _ _ hne h2, fun j hj => (h3 j hj).mono hg hw, fun x hx => ?_⟩
      rcases hx with hx | ⟨hx, _⟩
      · exact h4 x hx
      · exact hne hx
    · intro t n' ht
      rcases hget t n' ht with ⟨h1, h2⟩ | ⟨rfl, rfl⟩
      · obtain ⟨b', o', arr2, el2, q1, q2, q3, q4⟩ := hs.toksR t n' h2
        have hne : b' ≠ b := by rintro rfl; exact h1 (hs.tt t k _ _ _ _ _ h2 hk q1 htl)
        refine ⟨b', o', arr2, el2, by rw [hold t n' h2 h1]; exact q1, hothers _ _ _ _ _ hne q2, fun x hx hs' => ?_, q4⟩
        rcases hs' with hs' | ⟨hs', _⟩
        · exact q3 x hx hs'
        · exact hne hs'
      · refine ⟨b, o, arr', el, newTl_new, ⟨g1, by omega⟩, fun x hx hs' => ?_, t5⟩
        rcases hs' with hs' | ⟨_, hs', hs2⟩
        · exact t4 x (by omega) hs'
        · omega
    · intro t n' ht m' hm'
      rcases hget t n' ht with ⟨h1, h2⟩ | ⟨rfl, rfl⟩
      · rw [newTl_old (.inl h1)]; exact hs.tnew t n' h2 m' hm'
      · rw [newTl_old (by omega)]; exact hs.tnew t _ hk m' (by omega)
    · intro t ht m'
      rw [List.length_set] at ht
      have : t ≠ k := by rintro rfl; rw [List.getElem?_eq_none ht] at hk; cases hk
      rw [newTl_old (.inl this)]; exact hs.tnews t ht m'
    · intro t t' n1 n2 b' o1 o2 h1 h2 l1 l2
      rcases hget t n1 h1 with ⟨p1, p2⟩ | ⟨rfl, rfl⟩ <;> rcases hget t' n2 h2 with ⟨p3, p4⟩ | ⟨rfl, rfl⟩
      · rw [newTl_old (.inl p1)] at l1; rw [newTl_old (.inl p3)] at l2; exact hs.tt t t' n1 n2 b' o1 o2 p2 p4 l1 l2
      · rw [newTl_old (.inl p1)] at l1; rw [newTl_new] at l2; cases l2; exact hs.tt t _ n1 _ _ _ _ p2 hk l1 htl
      · rw [newTl_old (.inl p3)] at l2; rw [newTl_new] at l1; cases l1; exact hs.tt _ t' _ n2 _ _ _ hk p4 htl l2
      · rfl
    · intro i cs' v t n' b' o1 o2 hi ht l1 l2
      rcases hget t n' ht with ⟨p1, p2⟩ | ⟨rfl, rfl⟩
      · rw [newTl_old (.inl p1)] at l2; exact hs.ot i cs' v t n' b' o1 o2 hi p2 l1 l2
      · rw [newTl_new] at l2; cases l2; exact hs.ot i cs' v _ _ _ o1 _ hi hk l1 htl
    · intro b' x hx
      rw [g5]
      rcases hx with hx | ⟨rfl, _⟩
      · exact hs.lt b' x hx
      · exact lt_of_get hhb
    · intro b' hb'; rw [g5]; exact hs.tbl b' (htb b' hb')
  · intro j hj
    rw [← hcl]
    unfold World.cell?
    simp only [hhb]
    have h2 : o + cs.length + j < arr.size := by omega
    simp [h2]
  · intro j hj
    unfold World.frozen?
    simp [hhb]
theorem append_prep {o : Oper} {args : Array Operand} {ats : Array TypeId} {t t2 : TypeId} {x y : Operand} (hop : o.op = .call { callee := .builtin .append, args := args, argTypes := ats }) (h1 : ats.toList = [t, t2]) (h2 : args.toList = [x, y]) {c : Value} {w' : World}
    (h : (Builtin.append_ #[t, t2] o.type #[a.eval x, a.eval y]).run P w = .ok c w') : (execOp a.eval o).run P w = .ok (.value c) w' := by
  have e1 : ats = #[t, t2] := by cases ats; simp_all
  have e2 : args = #[x, y] := by cases args; simp_all
  subst e1; subst e2
  simp [execOp, hop, resolve, invoke, builtin, h]
theorem div_len {ys : List V} {n m : Nat} (hn : 0 < n) (h : ys.length = m * n) : ys.length / n = m := by rw [h]; exact Nat.mul_div_cancel m hn
/-- What holds when a token's row has gone to a new block. -/
theorem tok_moved (hs : Store G tl E toks objs w) (hE : E ≤ w.heap.size) {k n len' cap' : Nat} {cs rs : List V} {arr : Array Value} {e : TypeId} (hk : toks[k]? = some cs.length) (hlt : cs.length < rs.length) (hl : len' ≤ cap') (hs' : cap' * n ≤ arr.size) (hc : rs.length = len' * n)
    (hv : ∀ j (h : j < rs.length), VR G w (rs[j]'h) (arr.getD j Go.undef)) :
    ResOk G tl E objs w (.lst (.tok k n) rs len') (toks.set k rs.length) objs (.slice (some ⟨w.heap.size, 0, none⟩) len' cap') { w with heap := w.heap.push (.cells arr e) } (G.stab w.heap.size rs.length) (newTl tl k rs.length w.heap.size 0) := by
  have hw : WLe G w { w with heap := w.heap.push (.cells arr e) } := WLe.push _ hs.lt
  have hsz : rs.length ≤ arr.size := by have := Nat.mul_le_mul_right n hl; omega
  have hS := hs.push arr e rs.length
  have hklt : k < toks.length := by
    rcases Nat.lt_or_ge k toks.length with h1 | h1
    · exact h1
    · rw [List.getElem?_eq_none h1] at hk; cases hk
  have hget : ∀ t n', (toks.set k rs.length)[t]? = some n' → (t ≠ k ∧ toks[t]? = some n') ∨ (t = k ∧ n' = rs.length) := by
    intro t n' h
    by_cases ht : t = k
    · subst ht
      rw [List.getElem?_set_self hklt] at h
      exact .inr ⟨rfl, (Option.some.inj h).symm⟩
    · rw [List.getElem?_set_ne (fun h => ht h.symm)] at h
      exact .inl ⟨ht, h⟩
  have hmono : ∀ t n' p, tl t n' = some p → newTl tl k rs.length w.heap.size 0 t n' = some p := by
    intro t n' p hp
    rw [newTl_old]
    · exact hp
    · rcases Nat.eq_or_lt_of_le (Nat.le_refl t) with _ | h
      · by_cases hc : t = k
        · right; subst hc; rintro rfl
          rw [hs.tnew t _ hk _ hlt] at hp; cases hp
        · exact .inl hc
      · omega
  have htb : ∀ b', TB (newTl tl k rs.length w.heap.size 0) b' → TB tl b' ∨ w.heap.size ≤ b' := by
    rintro b' ⟨t, n', o', h⟩
    by_cases hc : t = k ∧ n' = rs.length
    · obtain ⟨rfl, rfl⟩ := hc
      rw [newTl_new] at h; cases h; right; exact Nat.le_refl _
    · rw [newTl_old (by omega)] at h; exact .inl ⟨t, n', o', h⟩
  have hblk : ∀ t n' b' o', toks[t]? = some n' → tl t n' = some (b', o') → b' ≠ w.heap.size := by
    intro t n' b' o' h1 h2
    have := hs.tbl b' ⟨t, n', o', h2⟩; omega
  refine ⟨?_, ?_, GLe.stab _ _ _, ⟨hmono, htb⟩, hw, ?_, fun b hb _ => fr_push _ hE b hb, fun _ b hb => .inr hb, fun b x hb hx => hx.elim id (fun hq => absurd hq.1 (by omega))⟩
  · exact .lst (fun j => arr.getD j Go.undef) hl (fun j hj => .inr ⟨rfl, by simpa using hj⟩) (fun j hj => push_cell (by omega)) (fun j hj => (hv j hj).mono (GLe.stab _ _ _) hw)
  · refine ⟨⟨fun t e' cs' len'' hv' => ?_, fun cs len hv' => ?_, fun e th cs len hv' => ?_⟩, fun vs as e => ?_⟩
    rotate_left
    · cases hv'
    · cases hv'
    · cases e
    cases hv'
    exact ⟨w.heap.size, 0, cap', arr, e, (0, 0), newTl_new, rfl, heap_push_new, by omega, hc⟩
  · refine ⟨hS.cellsR, hS.vers, hS.news, ?_, ?_, ?_, hS.oo, ?_, ?_, hS.lt, ?_, hS.maps⟩
    · intro t n' ht
      rcases hget t n' ht with ⟨h1, h2⟩ | ⟨rfl, rfl⟩
      · obtain ⟨b', o', arr2, el2, q1, q2, q3, q4⟩ := hS.toksR t n' h2
        exact ⟨b', o', arr2, el2, by rw [newTl_old (.inl h1)]; exact q1, q2, q3, q4⟩
      · refine ⟨w.heap.size, 0, arr, e, newTl_new, ⟨heap_push_new, by omega⟩, fun x hx hst => ?_, hE⟩
        rcases hst with hst | ⟨_, hst⟩
        · have := hs.lt _ _ hst; omega
        · omega
    · intro t n' ht m hm
      rcases hget t n' ht with ⟨h1, h2⟩ | ⟨rfl, rfl⟩
      · rw [newTl_old (.inl h1)]; exact hs.tnew t n' h2 m hm
      · rw [newTl_old (.inr (by omega))]; exact hs.tnew t _ hk m (by omega)
    · intro t ht m
      rw [List.length_set] at ht
      rw [newTl_old (.inl (by omega))]; exact hs.tnews t ht m
    · intro t t' n1 n2 b' o1 o2 h1 h2 l1 l2
      rcases hget t n1 h1 with ⟨p1, p2⟩ | ⟨rfl, rfl⟩ <;> rcases hget t' n2 h2 with ⟨p3, p4⟩ | ⟨rfl, rfl⟩
      · rw [newTl_old (.inl p1)] at l1; rw [newTl_old (.inl p3)] at l2; exact hs.tt t t' n1 n2 b' o1 o2 p2 p4 l1 l2
      · rw [newTl_old (.inl p1)] at l1; rw [newTl_new] at l2; cases l2; exact absurd rfl (hblk _ _ _ _ p2 l1)
      · rw [newTl_old (.inl p3)] at l2; rw [newTl_new] at l1; cases l1; exact absurd rfl (hblk _ _ _ _ p4 l2)
      · rfl
    · intro i cs' v t n' b' o1 o2 hi ht l1 l2
      rcases hget t n' ht with ⟨p1, p2⟩ | ⟨rfl, rfl⟩
      · rw [newTl_old (.inl p1)] at l2; exact hs.ot i cs' v t n' b' o1 o2 hi p2 l1 l2
      · rw [newTl_new] at l2; cases l2
        obtain ⟨b2, o2, a2, el2, g1, g2, _⟩ := hs.cellsR i cs' v hi
        have l1' : G.loc i v = some (w.heap.size, o1) := l1
        rw [g1] at l1'; cases l1'
        have := lt_of_get g2.at_; omega
    · intro b' hb'
      show b' < (w.heap.push _).size
      rw [Array.size_push]
      rcases htb b' hb' with h | h
      · have := hs.tbl b' h; omega
      · obtain ⟨t, n', o', h'⟩ := hb'
        by_cases hc : t = k ∧ n' = rs.length
        · obtain ⟨rfl, rfl⟩ := hc
          rw [newTl_new] at h'; cases h'; omega
        · rw [newTl_old (by omega)] at h'; have := hs.tbl b' ⟨t, n', o', h'⟩; omega
theorem zeros_get {z : List V} {sz : Nat} (hz : z.length = sz) : ∀ (n j : Nat) (h : j < (zeros z n).length), (zeros z n)[j]? = z[j % sz]? := by
  intro n
  induction n with
  | zero => intro j h; simp [zeros] at h
  | succ n ih =>
    intro j h
    have e : zeros z (n + 1) = z ++ zeros z n := by unfold zeros; rw [List.replicate_succ, List.flatten_cons]
    rw [e]
    rcases Nat.lt_or_ge j sz with h1 | h1
    · rw [List.getElem?_append_left (by omega), Nat.mod_eq_of_lt h1]
    · rw [List.getElem?_append_right (by omega), hz]
      have h2 : j - sz < (zeros z n).length := by rw [e, List.length_append] at h; omega
      rw [ih _ h2, Nat.mod_eq_sub_mod h1]
theorem make_run {t e : TypeId} {kl kc : IntKind} {l c : Int} {n : Nat} {z : List V} (hu : P.underlying t = some (.slice e)) (hsz : sizeOf? P e = some n) (hz : zeroV P e = some z) (h0 : 0 ≤ l) (h1 : l ≤ c) (h2 : c < 140737488355328) (hft : fits P e c.toNat = true) (hn : 0 < n) :
    ∃ arr, (Instr.makeSlice t (.int kl l) (.int kc c)).run P w = .ok (.slice (some ⟨w.heap.size, 0, none⟩) l.toNat c.toNat) { w with heap := w.heap.push (.cells arr e) } ∧ arr.size = c.toNat * n ∧
      ∀ j (h : j < (zeros z c.toNat).length), VR G w ((zeros z c.toNat)[j]'h) (arr.getD j Go.undef) := by
  obtain ⟨v, i, z1, z2, z3, z4, z5, z6⟩ := zero_run (w := w) hz
  obtain ⟨i', i1, i2, i3, i4⟩ := fits_inv hft
  rw [z1] at i1; cases i1
  have hin : i.size = n := by unfold sizeOf? at hsz; rw [z1] at hsz; exact Option.some.inj hsz
  have hzl : z.length = n := by omega
  have wr : ∀ x : Int, 0 ≤ x → x < 140737488355328 → IntKind.i64.wrap x = x := by
    intro x hx0 hx1
    exact IntWalk.i64_in x ⟨by omega, by omega⟩
  have wl := wr l h0 (by omega)
  have wc := wr c (by omega) h2
  have hbb : (i.bytes : Int) * c = ((c.toNat * i.bytes : Nat) : Int) := by
    rw [Nat.mul_comm]; push_cast; rw [Int.toNat_of_nonneg (by omega)]
  refine ⟨(Array.range (c.toNat * n)).map (v.cells[· % v.cells.size]!), ?_, by simp, fun j hj => ?_⟩
  · have hti : (Go.typeInfo e).run P w = .ok i w := by simp [Go.typeInfo, z1]
    unfold Instr.makeSlice
    simp only [Sem.run_bind, run_underlying hu, Result.andThen_ok, asInt, asIntOf, Sem.run_pure, hti, wl, wc]
    have hno : (decide (c < 0) || decide ((i.bytes : Int) * c > 2 ^ 48)) = false := by
      simp only [Bool.or_eq_false_iff, decide_eq_false_iff_not]
      rw [hbb]
      refine ⟨by omega, ?_⟩
      have h3 := Int.ofNat_lt.2 i4
      omega
    have hcond : ((decide (c < 0) || decide ((i.bytes : Int) * c > 2 ^ 48)) || decide (l < 0) || decide (l > c)) = false := by
      rw [hno, Bool.false_or, decide_eq_false (by omega), decide_eq_false (by omega)]; rfl
    simp only [hcond, Bool.false_eq_true, if_false, Sem.run_bind, run_askRoom, Result.andThen_ok, size_run hsz]
    by_cases hc0 : c.toNat * n = 0
    · have hc : c.toNat = 0 := by rcases Nat.mul_eq_zero.1 hc0 with h | h <;> omega
      simp [hc, newRow]
      congr 2
      apply Array.ext <;> simp
    · simp only [hc0, if_false, Sem.run_bind, z3, Result.andThen_ok, Sem.run_pure]
      rfl
  · have hj' : j < c.toNat * n := by rw [zeros_length, hzl] at hj; exact hj
    have hm' : j % n < z.length := by rw [hzl]; exact Nat.mod_lt _ hn
    have e1 : ((Array.range (c.toNat * n)).map (v.cells[· % v.cells.size]!)).getD j Go.undef = v.cells.getD (j % n) Go.undef := by
      rw [getD_eq (by simp; omega)]
      simp only [Array.getElem_map, Array.getElem_range]
      rw [z4, hzl, getD_eq (by omega)]
      exact getElem!_pos _ _ (by omega)
    have e2 := zeros_get hzl c.toNat j hj
    rw [List.getElem?_eq_getElem hj, List.getElem?_eq_getElem hm'] at e2
    rw [e1, Option.some.inj e2]
    exact z6 G _ hm'
set_option maxHeartbeats 1000000 in
theorem tok_ok {o : Oper} {r : V × List Nat} (he : EnvR G tl E w env a) (hs : Store G tl E toks objs w) (hE : E ≤ w.heap.size) (h : tokV P (opd env) objs toks o.op = some r) : Does P G tl E objs w a o r.1 r.2 objs := by
  obtain ⟨op, hop⟩ : ∃ op, o.op = op := ⟨_, rfl⟩
  rw [hop] at h
  cases op with
  | call c =>
    obtain ⟨callee, args, ats⟩ := c
    cases callee with
    | value f => simp only [tokV] at h; cases h
    | invoke r m => simp only [tokV] at h; cases h
    | builtin b =>
      cases b with
      | append =>
        simp only [tokV] at h
        split at h
        case h_2 => cases h
        rename_i t t2 x y hat har
        split at h
        case h_2 => cases h
        rename_i e d hu hu2
        split at h
        case h_2 => cases h
        rename_i n z hsz hz
        split at h
        · cases h
        rename_i ys hys
        split at h
        · cases h
        rename_i hn
        have hn0 : 0 < n := by omega
        obtain ⟨m, news, hsrc, hnl, hym, hyv⟩ := src_of he hs hn0 hu2 hys
        have hdiv := div_len hn0 hym
        rw [hdiv] at h
        obtain ⟨zv, zi, z1, z2, z3, z4, z5, z6⟩ := zero_run (w := w) hz
        have hzin : zi.size = n := by unfold sizeOf? at hsz; rw [z1] at hsz; exact Option.some.inj hsz
        have hx := opd_vr he x
        have htk := opd_tok he x
        split at h
        · rename_i hk
          rw [hk] at hx
          have ex := hx.nils_inv
          split at h
          case isFalse => cases h
          rename_i hft
          obtain ⟨i, i1, i2, i3, i4⟩ := fits_inv hft
          rw [z1] at i1; cases i1
          split at h
          · rename_i hnil; cases h
            have hm0 : m = 0 := by
              rw [hnil, List.length_nil] at hym
              rcases Nat.eq_zero_or_pos m with h | h
              · exact h
              · have := Nat.mul_pos h hn0; omega
            subst hm0
            have hnews : news = [] := List.eq_nil_of_length_eq_zero (by rw [hnl, hnil]; rfl)
            subst hnews
            refine does_same hs (c := .slice none 0 0) (append_prep hop hat har ?_) .nils (flatTok (by simp) (by simp))
            rw [ex]
            exact run_append_nothing w t t2 o.type e zi hu z1 none 0 0 (Nat.le_refl _) _ (by rw [hzin]; exact hsrc)
          · rename_i hnil; cases h
            have hm0 : 0 < m := by
              rcases Nat.eq_zero_or_pos m with h | h
              · subst h
                rw [Nat.zero_mul] at hym
                exact absurd (List.eq_nil_of_length_eq_zero hym) hnil
              · exact h
            obtain ⟨arr, cap', g1, g2, g3, g4⟩ := grow_row (ty := o.type) (cs := []) (len := 0) (cap := 0) (base := none) hu z1 z2 hzin hsrc hnl hym hyv [] rfl (by simp) (run_firstCells_none w.drew n 0 0 0) (fun j h1 => absurd h1 (by simp)) (by omega) i3 (by simpa using i4) (by rw [z4, z5, hzin])
            rw [Nat.zero_add] at g1 g2
            rw [← ex] at g1
            have hres := alloc_tok (drew_store hs) hE (arr := arr) (e := e) (cs := ys) (len := m) (cap := cap') (sz := n) g2 g3 hym (fun j hj => (g4 j (by simpa using hj)).mono (GLe.refl G) drew_wle)
            exact ⟨_, _, _, _, .inl (append_prep hop hat har g1), hres.ofDrew⟩
        · rename_i k n' cs len hk
          rw [hk] at hx htk
          obtain ⟨b, o', cap, arr, el, fz, t1, t2', t3, t4, t5⟩ := htk.1.1 k n' cs len rfl
          rw [t2'] at hx
          split at h <;> cases h
          rename_i hc
          obtain ⟨rfl, c2, c3, c4⟩ := hc
          obtain ⟨i, i1, i2, i3, i4⟩ := fits_inv c4
          rw [z1] at i1; cases i1
          by_cases hroom : len + m ≤ cap
          · obtain ⟨r1, r2, r3⟩ := tok_room hs c2 t1 c3 ⟨fz, t3⟩ t4 hroom hym hnl hyv hx
            refine ⟨_, _, _, _, .inl (append_prep hop hat har ?_), r1⟩
            rw [t2']
            have := run_append_room_src (P := P) w t t2 o.type e zi hu z1 b o' len cap (a.eval y) m news (by rw [hzin]; exact hsrc) hroom (by rw [hzin]; exact r2) (by rw [hzin]; exact r3)
            rw [hzin, ← c3] at this
            exact this
          · obtain ⟨q, qcap, f, e1, hl, hst, hcl, hv⟩ := hx.lst_inv
            cases e1
            have hm0 : 0 < m := by omega
            obtain ⟨arr', cap', g1, g2, g3, g4⟩ := grow_row (ty := o.type) (cs := cs) (len := len) (cap := cap) (base := some ⟨b, o', none⟩) hu z1 z2 hzin hsrc hnl hym hyv ((List.range cs.length).map f) (by simp) c3
              (run_firstCells_some w.drew n' len ⟨b, o', none⟩ len cap _ (by simp [c3]) (fun j u hu => by
                rw [List.getElem?_map, Option.map_eq_some_iff] at hu
                obtain ⟨i', hi', rfl⟩ := hu
                rcases Nat.lt_or_ge j cs.length with h1 | h1
                · rw [List.getElem?_range h1] at hi'; cases hi'; exact hcl j h1
                · rw [List.getElem?_eq_none (by simpa using h1)] at hi'; cases hi'))
              (fun j h1 h2 => by simp only [List.getElem_map, List.getElem_range]; exact hv j h1) (by omega) i3 i4 (by rw [z4, z5, hzin])
            rw [← t2'] at g1
            have hpos : 0 < ys.length := by rw [hym]; exact Nat.mul_pos hm0 hn0
            have hres := tok_moved (drew_store hs) hE (k := k) (n := n') (cs := cs) (rs := cs ++ ys) (arr := arr') (e := e) (len' := len + m) (cap' := cap') c2 (by rw [List.length_append]; omega) g2 g3 (by rw [List.length_append, c3, hym, Nat.add_mul]) (fun j hj => (g4 j hj).mono (GLe.refl G) drew_wle)
            rw [List.length_append] at hres
            exact ⟨_, _, _, _, .inl (append_prep hop hat har g1), hres.ofDrew⟩
        · cases h
      | _ => simp only [tokV] at h; cases h
  | buildSlice t n parts =>
    simp only [tokV] at h
    split at h
    case h_2 => cases h
    rename_i r0 hr
    split at h <;> cases h
    rename_i hlen
    unfold listV at hr
    split at hr
    case h_2 => cases hr
    rename_i e hu
    split at hr
    case h_2 => cases hr
    rename_i sz z hs1 hz
    split at hr
    case isFalse => cases hr
    rename_i hn
    cases hf : fillV (fun i => some (i * sz, sz)) (zeros z n) (parts.toList.map fun p => (p.1, demote (opd env p.2))) with
    | none => rw [hf] at hr; cases hr
    | some cs =>
      rw [hf] at hr; cases hr
      obtain ⟨hm, hv⟩ := parts_vr he parts
      obtain ⟨arr, b1, b2, b3⟩ := list_place (w := w) (G := G) hu hs1 hz hn.1 hn.2 hf hm hv
      simp only at hlen
      refine ⟨_, _, _, _, .inl ?_, alloc_tok (arr := arr) (e := e) (cs := cs) (len := n) (cap := n) (sz := sz) hs hE (Nat.le_refl _) (by omega) hlen b3⟩
      simp only [execOp, hop, Sem.run_bind]
      have hrun' : (Instr.buildSlice t n (parts.map fun ((i, x) : Nat × Operand) => (i, a.eval x))).run P w = _ := b1
      erw [hrun']
      rfl
  | makeSlice t l c =>
    simp only [tokV] at h
    have hl := opd_vr he l
    have hc := opd_vr he c
    split at h
    case h_2 => cases h
    rename_i e kl kc b hu g1 g2
    rw [g1] at hl; rw [g2] at hc
    split at h
    case h_2 => cases h
    rename_i n z hsz hz
    split at h <;> cases h
    rename_i hcnd
    obtain ⟨c1, c2, c3, c4⟩ := hcnd
    obtain ⟨arr, b1, b2, b3⟩ := make_run (w := w) (G := G) (kl := kl) (kc := kc) hu hsz hz (Int.le_refl 0) c1 c2 c3 c4
    refine ⟨_, _, _, _, .inl ?_, alloc_tok (arr := arr) (e := e) (cs := []) (len := 0) (cap := b.toNat) (sz := n) hs hE (Nat.zero_le _) (by omega) (by simp) (fun j hj => absurd hj (by simp))⟩
    simp [execOp, hop, hl.int_inv, hc.int_inv, b1]
  | _ => simp only [tokV] at h; cases h
end
end Go.Ab
