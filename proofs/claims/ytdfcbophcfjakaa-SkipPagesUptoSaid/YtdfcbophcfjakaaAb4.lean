import Derived.Test.YtdfcbophcfjakaaAb3
import Derived.Below
set_option linter.unusedSimpArgs false
set_option linter.unusedVariables false
set_option linter.unusedSectionVars false
/- New blocks: what a fresh row does to what is known. -/
namespace Go.Ab
def Has (objs : List AO) (id ver : Nat) : Prop := (∃ cs, objs[id]? = some (.cells cs ver)) ∨ (ver = 0 ∧ ∃ es, objs[id]? = some (AO.map es))
def OwnedAt (G : Gh) (objs : List AO) (id b : Nat) : Prop := ∃ ver o, Has objs id ver ∧ G.loc id ver = some (b, o)
def Owned (G : Gh) (objs : List AO) (b : Nat) : Prop := ∃ id, OwnedAt G objs id b
theorem OwnedAt.owned {G : Gh} {objs : List AO} {id b : Nat} (h : OwnedAt G objs id b) : Owned G objs b := ⟨id, h⟩
theorem OwnedAt.cells {G : Gh} {objs : List AO} {id b ver o : Nat} {cs : List V} (h : objs[id]? = some (.cells cs ver)) (hl : G.loc id ver = some (b, o)) : OwnedAt G objs id b := ⟨ver, o, .inl ⟨cs, h⟩, hl⟩
structure ResOk (G : Gh) (tl : Nat → Nat → Option (Nat × Nat)) (E : Nat) (objs : List AO) (w : World) (v : V) (toks' : List Nat) (objs' : List AO) (c : Value) (w' : World) (G' : Gh) (tl' : Nat → Nat → Option (Nat × Nat)) : Prop where
  vr : VR G' w' v c
  tk : TokT tl' E w' v c
  gle : GLe G G'
  tle : TLe tl tl' w
  wle : WLe G w w'
  store : Store G' tl' E toks' objs' w'
  fr : ∀ b, b < E → ¬ Owned G objs b → w'.heap[b]? = w.heap[b]?
  prov : ∀ id b, OwnedAt G' objs' id b → E ≤ b ∨ OwnedAt G objs id b
  stn : ∀ b x, b < E → G'.st b x → G.st b x
theorem ResOk.same {G : Gh} {tl : Nat → Nat → Option (Nat × Nat)} {E : Nat} {toks : List Nat} {objs : List AO} {w : World} {v : V} {c : Value} (hs : Store G tl E toks objs w) (hv : VR G w v c) (ht : TokT tl E w v c) :
    ResOk G tl E objs w v toks objs c w G tl :=
  ⟨hv, ht, GLe.refl G, TLe.refl tl w, WLe.refl G w, hs, fun _ _ _ => rfl, fun _ _ h => .inr h, fun _ _ _ h => h⟩
theorem heap_push {w : World} {o : Obj} {b : Nat} (h : b < w.heap.size) : ({ w with heap := w.heap.push o } : World).heap[b]? = w.heap[b]? := by
  show (w.heap.push o)[b]? = _
  rw [Array.getElem?_push, if_neg (by omega)]
theorem heap_push_new {w : World} {o : Obj} : ({ w with heap := w.heap.push o } : World).heap[w.heap.size]? = some o := by
  show (w.heap.push o)[_]? = _
  rw [Array.getElem?_push, if_pos rfl]
theorem cell_push {w : World} {o : Obj} {a : Addr} (h : a.block < w.heap.size) : ({ w with heap := w.heap.push o } : World).cell? a = w.cell? a := by
  unfold World.cell?
  rw [heap_push h]
theorem lt_of_get {w : World} {b : Nat} {o : Obj} (h : w.heap[b]? = some o) : b < w.heap.size := by
  rcases Nat.lt_or_ge b w.heap.size with h1 | h1
  · exact h1
  · rw [Array.getElem?_eq_none h1] at h; cases h
theorem WLe.push {G : Gh} {w : World} (o : Obj) (hlt : ∀ b x, G.st b x → b < w.heap.size) : WLe G w { w with heap := w.heap.push o } :=
  ⟨by show _ ≤ (w.heap.push o).size; rw [Array.size_push]; omega, fun b x h => cell_push (hlt b x h), fun b arr el fz h => ⟨arr, fz, (heap_push (lt_of_get h)).trans h, rfl⟩, rfl, rfl, rfl, fun b o h _ => (heap_push (lt_of_get h)).trans h⟩
theorem push_cell {w : World} {arr : Array Value} {e : TypeId} {j : Nat} (h : j < arr.size) : ({ w with heap := w.heap.push (.cells arr e) } : World).cell? ((⟨w.heap.size, 0, none⟩ : Addr).add j) = some (arr.getD j undef) := by
  have e1 : ((⟨w.heap.size, 0, none⟩ : Addr).add j) = ⟨w.heap.size, j, none⟩ := by unfold Addr.add; split <;> simp_all
  rw [e1]; unfold World.cell?
  rw [heap_push_new]
  simp [Array.getD, h]
/-- The ghost with the cells of a block stable up to n. -/
def Gh.stab (G : Gh) (b n : Nat) : Gh := ⟨G.loc, fun b' x => G.st b' x ∨ (b' = b ∧ x < n)⟩
theorem GLe.stab (G : Gh) (b n : Nat) : GLe G (G.stab b n) := ⟨fun _ _ _ h => h, fun _ _ h => .inl h⟩
/-- The store over a world with one block more, part of it stable. -/
theorem Store.push {G : Gh} {tl : Nat → Nat → Option (Nat × Nat)} {E : Nat} {toks : List Nat} {objs : List AO} {w : World} (h : Store G tl E toks objs w) (arr : Array Value) (e : TypeId) (n : Nat) :
    Store (G.stab w.heap.size n) tl E toks objs { w with heap := w.heap.push (.cells arr e) } := by
  have hw : WLe G w { w with heap := w.heap.push (.cells arr e) } := WLe.push _ h.lt
  refine ⟨?_, h.vers, h.news, ?_, h.tnew, h.tnews, h.oo, h.tt, h.ot, ?_, fun b hb => by show b < (w.heap.push _).size; rw [Array.size_push]; have := h.tbl b hb; omega, h.maps.keep (GLe.stab _ _ _) hw (fun b a c hb => (heap_push (lt_of_get hb)).trans hb) (fun _ _ _ _ => rfl) (fun _ _ b x a c _ _ hb hx => hx.elim id fun q => absurd q.1 (by have := lt_of_get hb; omega)) (fun _ _ h => h)⟩
  · intro id cs ver hi
    obtain ⟨b, o, a2, el, h1, ⟨h2, h3⟩, h4, h5⟩ := h.cellsR id cs ver hi
    have hb := lt_of_get h2
    refine ⟨b, o, a2, el, h1, ⟨(heap_push hb).trans h2, h3⟩, fun j hj => (h4 j hj).mono (GLe.stab _ _ _) hw, fun x hx => ?_⟩
    rcases hx with hx | ⟨hx, _⟩
    · exact h5 x hx
    · omega
  · intro t m ht
    obtain ⟨b, o, a2, el, h1, ⟨h2, h3⟩, h4, h5⟩ := h.toksR t m ht
    have hb := lt_of_get h2
    refine ⟨b, o, a2, el, h1, ⟨(heap_push hb).trans h2, h3⟩, fun x hx hs => ?_, h5⟩
    rcases hs with hs | ⟨hs, _⟩
    · exact h4 x hx hs
    · omega
  · intro b x hx
    show b < (w.heap.push _).size
    rw [Array.size_push]
    rcases hx with hx | ⟨hx, _⟩
    · have := h.lt b x hx; omega
    · omega
theorem fr_push {w : World} {E : Nat} (o : Obj) (hE : E ≤ w.heap.size) : ∀ b, b < E → ({ w with heap := w.heap.push o } : World).heap[b]? = w.heap[b]? := fun b hb => heap_push (by omega)
/-- A new row, held with its contents. -/
theorem alloc_lst {G : Gh} {tl : Nat → Nat → Option (Nat × Nat)} {E : Nat} {toks : List Nat} {objs : List AO} {w : World} (h : Store G tl E toks objs w) (hE : E ≤ w.heap.size) {arr : Array Value} {e : TypeId} {cs : List V} {len cap : Nat} {k : LK}
    (hk : k = .frozen ∨ k = .lit) (hl : len ≤ cap) (hs : cs.length ≤ arr.size) (hv : ∀ j (hj : j < cs.length), VR G w (cs[j]'hj) (arr.getD j undef)) :
    ResOk G tl E objs w (.lst k cs len) toks objs (.slice (some ⟨w.heap.size, 0, none⟩) len cap) { w with heap := w.heap.push (.cells arr e) } (G.stab w.heap.size cs.length) tl := by
  have hw : WLe G w { w with heap := w.heap.push (.cells arr e) } := WLe.push _ h.lt
  refine ⟨?_, ?_, GLe.stab _ _ _, TLe.refl tl w, hw, h.push _ _ _, fun b hb _ => fr_push _ hE b hb, fun _ b hb => .inr hb, fun b x hb hx => hx.elim id (fun hq => absurd hq.1 (by omega))⟩
  · exact .lst (fun j => arr.getD j undef) hl (fun j hj => .inr ⟨rfl, by simpa using hj⟩) (fun j hj => push_cell (by omega)) (fun j hj => (hv j hj).mono (GLe.stab _ _ _) hw)
  · refine ⟨⟨fun t e cs len hv => ?_, fun cs len hv => ⟨_, _, by cases hv; rfl, hE, by show _ < (w.heap.push _).size; rw [Array.size_push]; exact Nat.lt_succ_self _, h.tb⟩, fun e th cs len hv => ?_⟩, fun vs as e => by cases e⟩
    · rcases hk with rfl | rfl <;> cases hv
    · rcases hk with rfl | rfl <;> cases hv
def newTl (tl : Nat → Nat → Option (Nat × Nat)) (t0 n0 b o : Nat) : Nat → Nat → Option (Nat × Nat) := fun t n => if t = t0 ∧ n = n0 then some (b, o) else tl t n
theorem newTl_old {tl : Nat → Nat → Option (Nat × Nat)} {t0 n0 b o t n : Nat} (h : t ≠ t0 ∨ n ≠ n0) : newTl tl t0 n0 b o t n = tl t n := by
  unfold newTl; rw [if_neg (by omega)]
theorem newTl_new {tl : Nat → Nat → Option (Nat × Nat)} {t0 n0 b o : Nat} : newTl tl t0 n0 b o t0 n0 = some (b, o) := by
  unfold newTl; rw [if_pos ⟨rfl, rfl⟩]
/-- A new row that is appended to. -/
theorem alloc_tok {G : Gh} {tl : Nat → Nat → Option (Nat × Nat)} {E : Nat} {toks : List Nat} {objs : List AO} {w : World} (h : Store G tl E toks objs w) (hE : E ≤ w.heap.size) {arr : Array Value} {e : TypeId} {cs : List V} {len cap sz : Nat}
    (hl : len ≤ cap) (hs : cap * sz ≤ arr.size) (hc : cs.length = len * sz) (hv : ∀ j (hj : j < cs.length), VR G w (cs[j]'hj) (arr.getD j undef)) :
    ResOk G tl E objs w (.lst (.tok toks.length sz) cs len) (toks ++ [cs.length]) objs (.slice (some ⟨w.heap.size, 0, none⟩) len cap) { w with heap := w.heap.push (.cells arr e) } (G.stab w.heap.size cs.length)
      (newTl tl toks.length cs.length w.heap.size 0) := by
  have hw : WLe G w { w with heap := w.heap.push (.cells arr e) } := WLe.push _ h.lt
  have hs' : cs.length ≤ arr.size := by have := Nat.mul_le_mul_right sz hl; omega
  have hS := h.push arr e cs.length
  have hget : ∀ t n, (toks ++ [cs.length])[t]? = some n → (toks[t]? = some n ∧ t < toks.length) ∨ (t = toks.length ∧ n = cs.length) := by
    intro t n ht
    rcases Nat.lt_or_ge t toks.length with h1 | h1
    · rw [List.getElem?_append_left h1] at ht; exact .inl ⟨ht, h1⟩
    · rw [List.getElem?_append_right h1] at ht
      rcases Nat.eq_or_lt_of_le h1 with h2 | h2
      · subst h2; simp at ht; exact .inr ⟨rfl, ht.symm⟩
      · rw [List.getElem?_eq_none (by simp; omega)] at ht; cases ht
  refine ⟨?_, ?_, GLe.stab _ _ _, ?_, hw, ?_, fun b hb _ => fr_push _ hE b hb, fun _ b hb => .inr hb, fun b x hb hx => hx.elim id (fun hq => absurd hq.1 (by omega))⟩
  · exact .lst (fun j => arr.getD j undef) hl (fun j hj => .inr ⟨rfl, by simpa using hj⟩) (fun j hj => push_cell (by omega)) (fun j hj => (hv j hj).mono (GLe.stab _ _ _) hw)
  · refine ⟨⟨fun t e' cs' len' hv' => ?_, fun cs len hv' => ?_, fun e th cs len hv' => ?_⟩, fun vs as e => ?_⟩ 
    rotate_left
    · cases hv'
    · cases hv'
    · cases e
    cases hv'
    exact ⟨w.heap.size, 0, cap, arr, e, (0, 0), by rw [newTl_new], rfl, heap_push_new, by omega, hc⟩
  · refine ⟨fun t n p hp => ?_, fun b hb => ?_⟩
    · rw [newTl_old]
      · exact hp
      · rcases Nat.lt_or_ge t toks.length with h1 | h1
        · left; omega
        · rw [h.tnews _ h1] at hp; cases hp
    · obtain ⟨t, n, o, hb⟩ := hb
      by_cases hc : t = toks.length ∧ n = cs.length
      · obtain ⟨rfl, rfl⟩ := hc
        rw [newTl_new] at hb; cases hb; right; exact Nat.le_refl _
      · rw [newTl_old (by omega)] at hb; exact .inl ⟨t, n, o, hb⟩
  · refine ⟨hS.cellsR, hS.vers, hS.news, ?_, ?_, ?_, hS.oo, ?_, ?_, hS.lt, ?_, hS.maps⟩
    · intro t n ht
      rcases hget t n ht with ⟨h1, h2⟩ | ⟨rfl, rfl⟩
      · obtain ⟨b, o, a2, el, g1, g2, g3, g4⟩ := hS.toksR t n h1
        exact ⟨b, o, a2, el, by rw [newTl_old (by omega)]; exact g1, g2, g3, g4⟩
      · refine ⟨w.heap.size, 0, arr, e, by rw [newTl_new], ⟨heap_push_new, by omega⟩, fun x hx hst => ?_, hE⟩
        rcases hst with hst | ⟨_, hst⟩
        · have := h.lt _ _ hst; omega
        · omega
    · intro t n ht m hm
      rcases hget t n ht with ⟨h1, h2⟩ | ⟨rfl, rfl⟩
      · rw [newTl_old (by omega)]; exact h.tnew t n h1 m hm
      · rw [newTl_old (by omega)]; exact h.tnews _ (Nat.le_refl _) _
    · intro t ht m
      rw [List.length_append, List.length_singleton] at ht
      rw [newTl_old (by omega)]; exact h.tnews t (by omega) m
    · intro t t' n n' b o o' ht ht' hl1 hl2
      rcases hget t n ht with ⟨h1, h2⟩ | ⟨rfl, rfl⟩ <;> rcases hget t' n' ht' with ⟨h3, h4⟩ | ⟨rfl, rfl⟩
      · rw [newTl_old (by omega)] at hl1 hl2; exact h.tt t t' n n' b o o' h1 h3 hl1 hl2
      · rw [newTl_old (by omega)] at hl1; rw [newTl_new] at hl2; cases hl2
        obtain ⟨b2, o2, a2, el, g1, g2, _⟩ := h.toksR t n h1
        rw [g1] at hl1; cases hl1
        have := lt_of_get g2.at_; omega
      · rw [newTl_old (by omega)] at hl2; rw [newTl_new] at hl1; cases hl1
        obtain ⟨b2, o2, a2, el, g1, g2, _⟩ := h.toksR t' n' h3
        rw [g1] at hl2; cases hl2
        have := lt_of_get g2.at_; omega
      · rfl
    · intro i cs' v t n b o o' hi ht hl1 hl2
      rcases hget t n ht with ⟨h1, h2⟩ | ⟨rfl, rfl⟩
      · rw [newTl_old (by omega)] at hl2; exact h.ot i cs' v t n b o o' hi h1 hl1 hl2
      · rw [newTl_new] at hl2; cases hl2
        obtain ⟨b2, o2, a2, el, g1, g2, _⟩ := h.cellsR i cs' v hi
        have hl1' : G.loc i v = some (w.heap.size, o) := hl1
        rw [g1] at hl1'; cases hl1'
        have := lt_of_get g2.at_; omega
    · rintro b ⟨t, n, o, hb⟩
      by_cases hc : t = toks.length ∧ n = cs.length
      · obtain ⟨rfl, rfl⟩ := hc
        rw [newTl_new] at hb; cases hb
        show _ < (w.heap.push _).size; rw [Array.size_push]; exact Nat.lt_succ_self _
      · rw [newTl_old (by omega)] at hb; exact hS.tbl b ⟨t, n, o, hb⟩
/-- A new object. -/
def Gh.newLoc (G : Gh) (id ver b o : Nat) : Gh := ⟨fun i v => if i = id ∧ v = ver then some (b, o) else G.loc i v, G.st⟩
theorem alloc_obj {G : Gh} {tl : Nat → Nat → Option (Nat × Nat)} {E : Nat} {toks : List Nat} {objs : List AO} {w : World} (h : Store G tl E toks objs w) (hE : E ≤ w.heap.size) {arr : Array Value} {e : TypeId} {cs : List V}
    (hs : cs.length ≤ arr.size) (hv : ∀ j (hj : j < cs.length), VR G w (cs[j]'hj) (arr.getD j undef)) :
    GLe G (G.newLoc objs.length 0 w.heap.size 0) ∧ WLe G w { w with heap := w.heap.push (.cells arr e) } ∧ Store (G.newLoc objs.length 0 w.heap.size 0) tl E toks (objs ++ [.cells cs 0]) { w with heap := w.heap.push (.cells arr e) } ∧
    (∀ b, b < E → ¬ Owned G objs b → ({ w with heap := w.heap.push (.cells arr e) } : World).heap[b]? = w.heap[b]?) ∧ (∀ id b, OwnedAt (G.newLoc objs.length 0 w.heap.size 0) (objs ++ [.cells cs 0]) id b → E ≤ b ∨ OwnedAt G objs id b) := by
  have hw : WLe G w { w with heap := w.heap.push (.cells arr e) } := WLe.push _ h.lt
  have hg : GLe G (G.newLoc objs.length 0 w.heap.size 0) := by
    refine ⟨fun i v p hp => ?_, fun _ _ h => h⟩
    simp only [Gh.newLoc]; rw [if_neg]
    · exact hp
    · rintro ⟨rfl, rfl⟩
      rw [h.news _ (Nat.le_refl _)] at hp; cases hp
  have hget : ∀ t o, (objs ++ [AO.cells cs 0])[t]? = some o → (objs[t]? = some o ∧ t < objs.length) ∨ (t = objs.length ∧ o = .cells cs 0) := by
    intro t n ht
    rcases Nat.lt_or_ge t objs.length with h1 | h1
    · rw [List.getElem?_append_left h1] at ht; exact .inl ⟨ht, h1⟩
    · rw [List.getElem?_append_right h1] at ht
      rcases Nat.eq_or_lt_of_le h1 with h2 | h2
      · subst h2; simp at ht; exact .inr ⟨rfl, ht.symm⟩
      · rw [List.getElem?_eq_none (by simp; omega)] at ht; cases ht
  have hold : ∀ i v, i < objs.length → (G.newLoc objs.length 0 w.heap.size 0).loc i v = G.loc i v := fun i v hi => by simp only [Gh.newLoc]; rw [if_neg (by omega)]
  have hblk : ∀ i cs v b o, objs[i]? = some (.cells cs v) → G.loc i v = some (b, o) → b < w.heap.size := by
    intro i cs v b o hi hl
    obtain ⟨b2, o2, a2, el, g1, g2, _⟩ := h.cellsR i cs v hi
    rw [g1] at hl; cases hl; exact lt_of_get g2.at_
  refine ⟨hg, hw, ?_, fun b hb _ => fr_push _ hE b hb, ?_⟩
  · refine ⟨?_, ?_, ?_, ?_, h.tnew, h.tnews, ?_, h.tt, ?_, ?_, fun b hb => by show b < (w.heap.push _).size; rw [Array.size_push]; have := h.tbl b hb; omega, h.maps.keep hg hw (fun b a c hb => (heap_push (lt_of_get hb)).trans hb) (fun id es v hi => (hget id _ hi).elim (fun q => hold _ _ q.2) fun q => by cases q.2) (fun _ _ _ _ _ _ _ _ _ hx => hx) (fun id es hi => (hget id _ hi).elim (fun q => q.1) fun q => by cases q.2)⟩
    · intro id cs' ver hi
      rcases hget id _ hi with ⟨h1, h2⟩ | ⟨rfl, h2⟩
      · obtain ⟨b, o, a2, el, g1, ⟨g2, g3⟩, g4, g5⟩ := h.cellsR id cs' ver h1
        exact ⟨b, o, a2, el, by rw [hold _ _ h2]; exact g1, ⟨(heap_push (lt_of_get g2)).trans g2, g3⟩, fun j hj => (g4 j hj).mono hg hw, g5⟩
      · cases h2
        refine ⟨w.heap.size, 0, arr, e, by simp [Gh.newLoc], ⟨heap_push_new, by omega⟩, fun j hj => by rw [Nat.zero_add]; exact (hv j hj).mono hg hw, fun x hx => ?_⟩
        have := h.lt _ _ hx; omega
    · intro id cs' ver hi v' hv'
      rcases hget id _ hi with ⟨h1, h2⟩ | ⟨rfl, h2⟩
      · rw [hold _ _ h2]; exact h.vers id cs' ver h1 v' hv'
      · cases h2
        simp only [Gh.newLoc]; rw [if_neg (by omega)]; exact h.news _ (Nat.le_refl _) _
    · intro id hid v'
      rw [List.length_append, List.length_singleton] at hid
      simp only [Gh.newLoc]; rw [if_neg (by omega)]; exact h.news _ (by omega) _
    · intro t n ht
      obtain ⟨b, o, a2, el, g1, ⟨g2, g3⟩, g4, g5⟩ := h.toksR t n ht
      exact ⟨b, o, a2, el, g1, ⟨(heap_push (lt_of_get g2)).trans g2, g3⟩, g4, g5⟩
    · intro i i' c1 c2 v v' b o o' hi hi' l1 l2
      rcases hget i _ hi with ⟨h1, h2⟩ | ⟨rfl, h2⟩ <;> rcases hget i' _ hi' with ⟨h3, h4⟩ | ⟨rfl, h4⟩
      · rw [hold _ _ h2] at l1; rw [hold _ _ h4] at l2; exact h.oo i i' c1 c2 v v' b o o' h1 h3 l1 l2
      · cases h4; rw [hold _ _ h2] at l1; simp [Gh.newLoc] at l2
        have := hblk _ _ _ _ _ h1 l1; omega
      · cases h2; rw [hold _ _ h4] at l2; simp [Gh.newLoc] at l1
        have := hblk _ _ _ _ _ h3 l2; omega
      · rfl
    · intro i c1 v t n b o o' hi ht l1 l2
      rcases hget i _ hi with ⟨h1, h2⟩ | ⟨rfl, h2⟩
      · rw [hold _ _ h2] at l1; exact h.ot i c1 v t n b o o' h1 ht l1 l2
      · cases h2; simp [Gh.newLoc] at l1
        obtain ⟨b2, o2, a2, el, g1, g2, _⟩ := h.toksR t n ht
        rw [g1] at l2; cases l2
        have := lt_of_get g2.at_; omega
    · intro b x hx
      show b < (w.heap.push _).size
      rw [Array.size_push]; have := h.lt b x hx; omega
  · rintro id b ⟨ver, o, hi | ⟨rfl, hi⟩, hl⟩
    · obtain ⟨cs', hi⟩ := hi
      rcases hget id _ hi with ⟨h1, h2⟩ | ⟨rfl, h2⟩
      · exact .inr ⟨ver, o, .inl ⟨cs', h1⟩, by rw [hold _ _ h2] at hl; exact hl⟩
      · cases h2; simp [Gh.newLoc] at hl; left; omega
    · obtain ⟨es, hi⟩ := hi
      rcases hget id _ hi with ⟨h1, h2⟩ | ⟨rfl, h2⟩
      · exact .inr ⟨0, o, .inr ⟨rfl, es, h1⟩, by rw [hold _ _ h2] at hl; exact hl⟩
      · cases h2
/-- A new map. -/
theorem alloc_map {G : Gh} {tl : Nat → Nat → Option (Nat × Nat)} {E : Nat} {toks : List Nat} {objs : List AO} {w : World} (h : Store G tl E toks objs w) (hE : E ≤ w.heap.size) :
    GLe G (G.newLoc objs.length 0 w.heap.size 0) ∧ WLe G w { w with heap := w.heap.push (.map #[] 0) } ∧ Store (G.newLoc objs.length 0 w.heap.size 0) tl E toks (objs ++ [.map []]) { w with heap := w.heap.push (.map #[] 0) } ∧
    (∀ b, b < E → ¬ Owned G objs b → ({ w with heap := w.heap.push (.map #[] 0) } : World).heap[b]? = w.heap[b]?) ∧ (∀ id b, OwnedAt (G.newLoc objs.length 0 w.heap.size 0) (objs ++ [.map []]) id b → E ≤ b ∨ OwnedAt G objs id b) := by
  have hw : WLe G w { w with heap := w.heap.push (.map #[] 0) } := WLe.push _ h.lt
  have hg : GLe G (G.newLoc objs.length 0 w.heap.size 0) := by
    refine ⟨fun i v p hp => ?_, fun _ _ h => h⟩
    simp only [Gh.newLoc]; rw [if_neg]
    · exact hp
    · rintro ⟨rfl, rfl⟩
      rw [h.news _ (Nat.le_refl _)] at hp; cases hp
  have hget : ∀ t o, (objs ++ [AO.map []])[t]? = some o → (objs[t]? = some o ∧ t < objs.length) ∨ (t = objs.length ∧ o = .map []) := by
    intro t n ht
    rcases Nat.lt_or_ge t objs.length with h1 | h1
    · rw [List.getElem?_append_left h1] at ht; exact .inl ⟨ht, h1⟩
    · rw [List.getElem?_append_right h1] at ht
      rcases Nat.eq_or_lt_of_le h1 with h2 | h2
      · subst h2; simp at ht; exact .inr ⟨rfl, ht.symm⟩
      · rw [List.getElem?_eq_none (by simp; omega)] at ht; cases ht
  have hold : ∀ i v, i < objs.length → (G.newLoc objs.length 0 w.heap.size 0).loc i v = G.loc i v := fun i v hi => by simp only [Gh.newLoc]; rw [if_neg (by omega)]
  have hmb : ∀ i es b, objs[i]? = some (.map es) → G.loc i 0 = some (b, 0) → b < w.heap.size := by
    intro i es b hi hl
    obtain ⟨b2, a2, cl, g1, g2, _⟩ := h.maps.row i es hi
    rw [g1] at hl; cases hl; exact lt_of_get g2
  refine ⟨hg, hw, ?_, fun b hb _ => fr_push _ hE b hb, ?_⟩
  · refine ⟨?_, ?_, ?_, ?_, h.tnew, h.tnews, ?_, h.tt, ?_, ?_, fun b hb => by show b < (w.heap.push _).size; rw [Array.size_push]; have := h.tbl b hb; omega, ⟨?_, ?_, ?_⟩⟩
    · intro id cs' ver hi
      rcases hget id _ hi with ⟨h1, h2⟩ | ⟨rfl, h2⟩
      · obtain ⟨b, o, a2, el, g1, ⟨g2, g3⟩, g4, g5⟩ := h.cellsR id cs' ver h1
        exact ⟨b, o, a2, el, by rw [hold _ _ h2]; exact g1, ⟨(heap_push (lt_of_get g2)).trans g2, g3⟩, fun j hj => (g4 j hj).mono hg hw, g5⟩
      · cases h2
    · intro id cs' ver hi v' hv'
      rcases hget id _ hi with ⟨h1, h2⟩ | ⟨rfl, h2⟩
      · rw [hold _ _ h2]; exact h.vers id cs' ver h1 v' hv'
      · cases h2
    · intro id hid v'
      rw [List.length_append, List.length_singleton] at hid
      simp only [Gh.newLoc]; rw [if_neg (by omega)]; exact h.news _ (by omega) _
    · intro t n ht
      obtain ⟨b, o, a2, el, g1, ⟨g2, g3⟩, g4, g5⟩ := h.toksR t n ht
      exact ⟨b, o, a2, el, g1, ⟨(heap_push (lt_of_get g2)).trans g2, g3⟩, g4, g5⟩
    · intro i i' c1 c2 v v' b o o' hi hi' l1 l2
      rcases hget i _ hi with ⟨h1, h2⟩ | ⟨rfl, h2⟩ <;> rcases hget i' _ hi' with ⟨h3, h4⟩ | ⟨rfl, h4⟩
      · rw [hold _ _ h2] at l1; rw [hold _ _ h4] at l2; exact h.oo i i' c1 c2 v v' b o o' h1 h3 l1 l2
      · cases h4
      · cases h2
      · rfl
    · intro i c1 v t n b o o' hi ht l1 l2
      rcases hget i _ hi with ⟨h1, h2⟩ | ⟨rfl, h2⟩
      · rw [hold _ _ h2] at l1; exact h.ot i c1 v t n b o o' h1 ht l1 l2
      · cases h2
    · intro b x hx
      show b < (w.heap.push _).size
      rw [Array.size_push]; have := h.lt b x hx; omega
    · intro id es hi
      rcases hget id _ hi with ⟨h1, h2⟩ | ⟨rfl, h2⟩
      · obtain ⟨b, a2, cl, g1, g2, g3, g4⟩ := h.maps.row id es h1
        exact ⟨b, a2, cl, by rw [hold _ _ h2]; exact g1, (heap_push (lt_of_get g2)).trans g2, g3.mono hg hw, g4⟩
      · cases h2
        refine ⟨w.heap.size, #[], 0, by simp [Gh.newLoc], heap_push_new, ⟨rfl, fun j h => absurd h (by simp)⟩, fun x hx => ?_⟩
        have := h.lt _ _ hx; omega
    · intro id es hi v' hv'
      rcases hget id _ hi with ⟨h1, h2⟩ | ⟨rfl, h2⟩
      · rw [hold _ _ h2]; exact h.maps.ver id es h1 v' hv'
      · simp only [Gh.newLoc]; rw [if_neg (by omega)]; exact h.news _ (Nat.le_refl _) _
    · intro i i' es es' b hi hi' l1 l2
      rcases hget i _ hi with ⟨h1, h2⟩ | ⟨rfl, h2⟩ <;> rcases hget i' _ hi' with ⟨h3, h4⟩ | ⟨rfl, h4⟩
      · rw [hold _ _ h2] at l1; rw [hold _ _ h4] at l2; exact h.maps.inj i i' es es' b h1 h3 l1 l2
      · rw [hold _ _ h2] at l1; simp [Gh.newLoc] at l2
        have := hmb _ _ _ h1 l1; omega
      · rw [hold _ _ h4] at l2; simp [Gh.newLoc] at l1
        have := hmb _ _ _ h3 l2; omega
      · rfl
  · rintro id b ⟨ver, o, hi | ⟨rfl, hi⟩, hl⟩
    · obtain ⟨cs', hi⟩ := hi
      rcases hget id _ hi with ⟨h1, h2⟩ | ⟨rfl, h2⟩
      · exact .inr ⟨ver, o, .inl ⟨cs', h1⟩, by rw [hold _ _ h2] at hl; exact hl⟩
      · cases h2
    · obtain ⟨es, hi⟩ := hi
      rcases hget id _ hi with ⟨h1, h2⟩ | ⟨rfl, h2⟩
      · exact .inr ⟨0, o, .inr ⟨rfl, es, h1⟩, by rw [hold _ _ h2] at hl; exact hl⟩
      · simp [Gh.newLoc] at hl; left; omega
/-- One map has turned. -/
theorem map_turn {G : Gh} {tl : Nat → Nat → Option (Nat × Nat)} {E : Nat} {toks : List Nat} {objs : List AO} {w : World} (h : Store G tl E toks objs w) {id b cl cl' : Nat} {es es' : List (V × V)} {arr arr' : Array MapEntry} (hi : objs[id]? = some (.map es)) (hloc : G.loc id 0 = some (b, 0))
    (hb : w.heap[b]? = some (.map arr cl)) (hent : EntR G w es' arr') :
    WLe G w { w with heap := w.heap.setIfInBounds b (.map arr' cl') } ∧ Store G tl E toks (objs.set id (.map es')) { w with heap := w.heap.setIfInBounds b (.map arr' cl') } ∧
    (∀ k, k ≠ b → (w.heap.setIfInBounds b (.map arr' cl'))[k]? = w.heap[k]?) ∧ (∀ i k, OwnedAt G (objs.set id (.map es')) i k → OwnedAt G objs i k) := by
  have hlt := lt_of_get hb
  have hne : ∀ k, k ≠ b → (w.heap.setIfInBounds b (.map arr' cl'))[k]? = w.heap[k]? := fun k hk => by simp [Ne.symm hk]
  have hself : (w.heap.setIfInBounds b (.map arr' cl'))[b]? = some (.map arr' cl') := by simp [hlt]
  obtain ⟨b0, a0, c0, r1, r2, r3, r4⟩ := h.maps.row id es hi
  rw [r1] at hloc; cases hloc
  have hw : WLe G w { w with heap := w.heap.setIfInBounds b (.map arr' cl') } := by
    refine ⟨by simp, fun k x hk => ?_, fun k a e fz hk => ?_, rfl, rfl, rfl, fun k o hk ho => ?_⟩
    · have : k ≠ b := by rintro rfl; exact r4 x hk
      unfold World.cell?
      simp only [hne k this]
    · have : k ≠ b := by rintro rfl; rw [hb] at hk; cases hk
      exact ⟨a, fz, (hne k this).trans hk, rfl⟩
    · have : k ≠ b := by rintro rfl; rw [hb] at hk; cases hk; cases ho
      exact (hne k this).trans hk
  have hidlt : id < objs.length := by
    rcases Nat.lt_or_ge id objs.length with h1 | h1
    · exact h1
    · rw [List.getElem?_eq_none h1] at hi; cases hi
  have hget : ∀ i x, (objs.set id (.map es'))[i]? = some x → (i ≠ id ∧ objs[i]? = some x) ∨ (i = id ∧ x = .map es') := by
    intro i x hx
    by_cases hii : i = id
    · subst hii
      rw [List.getElem?_set_self hidlt] at hx
      exact .inr ⟨rfl, (Option.some.inj hx).symm⟩
    · rw [List.getElem?_set_ne (fun h => hii h.symm)] at hx
      exact .inl ⟨hii, hx⟩
  have hown : ∀ {k o n : Nat} {a : Array Value} {e : TypeId}, Own G w k o n a e → Own G { w with heap := w.heap.setIfInBounds b (.map arr' cl') } k o n a e := by
    intro k o n a e ho
    have : k ≠ b := by rintro rfl; have := ho.at_; rw [hb] at this; cases this
    exact ⟨(hne k this).trans ho.at_, ho.fit⟩
  refine ⟨hw, ⟨?_, ?_, ?_, ?_, h.tnew, h.tnews, ?_, h.tt, ?_, ?_, ?_, ⟨?_, ?_, ?_⟩⟩, hne, ?_⟩
  · intro i cs v hx
    rcases hget i _ hx with ⟨h1, h2⟩ | ⟨_, h2⟩
    · obtain ⟨k, o, a2, el, g1, g2, g4, g5⟩ := h.cellsR i cs v h2
      exact ⟨k, o, a2, el, g1, hown g2, fun j hj => (g4 j hj).mono (GLe.refl G) hw, g5⟩
    · cases h2
  · intro i cs v hx v' hv'
    rcases hget i _ hx with ⟨h1, h2⟩ | ⟨_, h2⟩
    · exact h.vers i cs v h2 v' hv'
    · cases h2
  · intro i hi' v'
    rw [List.length_set] at hi'
    exact h.news i hi' v'
  · intro t n ht
    obtain ⟨k, o, a2, el, g1, g2, g4, g5⟩ := h.toksR t n ht
    exact ⟨k, o, a2, el, g1, hown g2, g4, g5⟩
  · intro i i' c1 c2 v v' k o o' h1 h2 l1 l2
    rcases hget i _ h1 with ⟨p1, p2⟩ | ⟨_, p2⟩ <;> rcases hget i' _ h2 with ⟨p3, p4⟩ | ⟨_, p4⟩
    · exact h.oo i i' c1 c2 v v' k o o' p2 p4 l1 l2
    · cases p4
    · cases p2
    · cases p2
  · intro i c1 v t n k o o' h1 ht l1 l2
    rcases hget i _ h1 with ⟨p1, p2⟩ | ⟨_, p2⟩
    · exact h.ot i c1 v t n k o o' p2 ht l1 l2
    · cases p2
  · intro k x hx
    exact Nat.lt_of_lt_of_le (h.lt k x hx) hw.size
  · intro k hk
    exact Nat.lt_of_lt_of_le (h.tbl k hk) hw.size
  · intro i e hx
    rcases hget i _ hx with ⟨h1, h2⟩ | ⟨rfl, h2⟩
    · obtain ⟨k, a2, c2, g1, g2, g3, g4⟩ := h.maps.row i e h2
      have : k ≠ b := by rintro rfl; exact h1 (h.maps.inj i id e es _ h2 hi g1 r1)
      exact ⟨k, a2, c2, g1, (hne k this).trans g2, g3.mono (GLe.refl G) hw, g4⟩
    · cases h2
      exact ⟨b, arr', cl', r1, hself, hent.mono (GLe.refl G) hw, r4⟩
  · intro i e hx v' hv'
    rcases hget i _ hx with ⟨h1, h2⟩ | ⟨rfl, h2⟩
    · exact h.maps.ver i e h2 v' hv'
    · exact h.maps.ver _ es hi v' hv'
  · intro i i' e e' k h1 h2 l1 l2
    have q : ∀ i e, (objs.set id (.map es'))[i]? = some (AO.map e) → ∃ e2, objs[i]? = some (AO.map e2) := fun i e hx => (hget i _ hx).elim (fun q => ⟨_, q.2⟩) fun q => by rw [q.1]; exact ⟨_, hi⟩
    obtain ⟨e2, q2⟩ := q i e h1
    obtain ⟨e3, q3⟩ := q i' e' h2
    exact h.maps.inj i i' e2 e3 k q2 q3 l1 l2
  · rintro i k ⟨ver, o, hq | ⟨rfl, e, hq⟩, hl⟩
    · obtain ⟨cs', hq⟩ := hq
      rcases hget i _ hq with ⟨h1, h2⟩ | ⟨_, h2⟩
      · exact ⟨ver, o, .inl ⟨cs', h2⟩, hl⟩
      · cases h2
    · rcases hget i _ hq with ⟨h1, h2⟩ | ⟨rfl, h2⟩
      · exact ⟨0, o, .inr ⟨rfl, e, h2⟩, hl⟩
      · exact ⟨0, o, .inr ⟨rfl, es, hi⟩, hl⟩
end Go.Ab
