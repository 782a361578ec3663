import Derived.Test.YtaibfjipombilaaAb3
import Derived.Below
set_option linter.unusedSimpArgs false
set_option linter.unusedVariables false
set_option linter.unusedSectionVars false
/- New blocks: what a fresh row does to what is known. -/
namespace Go.Ab
def Owned (G : Gh) (objs : List AO) (b : Nat) : Prop := ∃ id cs ver o, objs[id]? = some (.cells cs ver) ∧ G.loc id ver = some (b, o)
def OwnedAt (G : Gh) (objs : List AO) (id b : Nat) : Prop := ∃ cs ver o, objs[id]? = some (.cells cs ver) ∧ G.loc id ver = some (b, o)
theorem OwnedAt.owned {G : Gh} {objs : List AO} {id b : Nat} (h : OwnedAt G objs id b) : Owned G objs b := ⟨id, h⟩
structure ResOk (G : Gh) (tl : Nat → Nat → Option (Nat × Nat)) (E : Nat) (objs : List AO) (w : World) (v : V) (toks' : List Nat) (objs' : List AO) (c : Value) (w' : World) (G' : Gh) (tl' : Nat → Nat → Option (Nat × Nat)) : Prop where
  vr : VR G' w' v c
  tk : TokT tl' E w' v c
  gle : GLe G G'
  tle : TLe tl tl' w
  wle : WLe G w w'
  store : Store G' tl' E toks' objs' w'
  fr : ∀ b, b < E → ¬ Owned G objs b → w'.heap[b]? = w.heap[b]?
  prov : ∀ id b, OwnedAt G' objs' id b → E ≤ b ∨ OwnedAt G objs id b
  stn : ∀ b x, b < E → G'.st b x → G.st b x
theorem ResOk.same {G : Gh} {tl : Nat → Nat → Option (Nat × Nat)} {E : Nat} {toks : List Nat} {objs : List AO} {w : World} {v : V} {c : Value} (hs : Store G tl E toks objs w) (hv : VR G w v c) (ht : TokT tl E w v c) :
    ResOk G tl E objs w v toks objs c w G tl :=
  ⟨hv, ht, GLe.refl G, TLe.refl tl w, WLe.refl G w, hs, fun _ _ _ => rfl, fun _ _ h => .inr h, fun _ _ _ h => h⟩
theorem heap_push {w : World} {o : Obj} {b : Nat} (h : b < w.heap.size) : ({ w with heap := w.heap.push o } : World).heap[b]? = w.heap[b]? := by
  show (w.heap.push o)[b]? = _
  rw [Array.getElem?_push, if_neg (by omega)]
theorem heap_push_new {w : World} {o : Obj} : ({ w with heap := w.heap.push o } : World).heap[w.heap.size]? = some o := by
  show (w.heap.push o)[_]? = _
  rw [Array.getElem?_push, if_pos rfl]
theorem cell_push {w : World} {o : Obj} {a : Addr} (h : a.block < w.heap.size) : ({ w with heap := w.heap.push o } : World).cell? a = w.cell? a := by
  unfold World.cell?
  rw [heap_push h]
theorem lt_of_get {w : World} {b : Nat} {o : Obj} (h : w.heap[b]? = some o) : b < w.heap.size := by
  rcases Nat.lt_or_ge b w.heap.size with h1 | h1
  · exact h1
  · rw [Array.getElem?_eq_none h1] at h; cases h
theorem WLe.push {G : Gh} {w : World} (o : Obj) (hlt : ∀ b x, G.st b x → b < w.heap.size) : WLe G w { w with heap := w.heap.push o } :=
  ⟨by show _ ≤ (w.heap.push o).size; rw [Array.size_push]; omega, fun b x h => cell_push (hlt b x h), fun b arr el fz h => ⟨arr, fz, (heap_push (lt_of_get h)).trans h, rfl⟩, rfl, rfl, rfl⟩
theorem push_cell {w : World} {arr : Array Value} {e : TypeId} {j : Nat} (h : j < arr.size) : ({ w with heap := w.heap.push (.cells arr e) } : World).cell? ((⟨w.heap.size, 0, none⟩ : Addr).add j) = some (arr.getD j undef) := by
  have e1 : ((⟨w.heap.size, 0, none⟩ : Addr).add j) = ⟨w.heap.size, j, none⟩ := by unfold Addr.add; split <;> simp_all
  rw [e1]; unfold World.cell?
  rw [heap_push_new]
  simp [Array.getD, h]
/-- The ghost with the cells of a block stable up to n. -/
def Gh.stab (G : Gh) (b n : Nat) : Gh := ⟨G.loc, fun b' x => G.st b' x ∨ (b' = b ∧ x < n)⟩
theorem GLe.stab (G : Gh) (b n : Nat) : GLe G (G.stab b n) := ⟨fun _ _ _ h => h, fun _ _ h => .inl h⟩
/-- The store over a world with one block more, part of it stable. -/
theorem Store.push {G : Gh} {tl : Nat → Nat → Option (Nat × Nat)} {E : Nat} {toks : List Nat} {objs : List AO} {w : World} (h : Store G tl E toks objs w) (arr : Array Value) (e : TypeId) (n : Nat) :
    Store (G.stab w.heap.size n) tl E toks objs { w with heap := w.heap.push (.cells arr e) } := by
  have hw : WLe G w { w with heap := w.heap.push (.cells arr e) } := WLe.push _ h.lt
  refine ⟨?_, h.vers, h.news, ?_, h.tnew, h.tnews, h.oo, h.tt, h.ot, ?_, fun b hb => by show b < (w.heap.push _).size; rw [Array.size_push]; have := h.tbl b hb; omega⟩
  · intro id cs ver hi
    obtain ⟨b, o, a2, el, h1, ⟨h2, h3⟩, h4, h5⟩ := h.cellsR id cs ver hi
    have hb := lt_of_get h2
    refine ⟨b, o, a2, el, h1, ⟨(heap_push hb).trans h2, h3⟩, fun j hj => (h4 j hj).mono (GLe.stab _ _ _) hw, fun x hx => ?_⟩
    rcases hx with hx | ⟨hx, _⟩
    · exact h5 x hx
    · omega
  · intro t m ht
    obtain ⟨b, o, a2, el, h1, ⟨h2, h3⟩, h4, h5⟩ := h.toksR t m ht
    have hb := lt_of_get h2
    refine ⟨b, o, a2, el, h1, ⟨(heap_push hb).trans h2, h3⟩, fun x hx hs => ?_, h5⟩
    rcases hs with hs | ⟨hs, _⟩
    · exact h4 x hx hs
    · omega
  · intro b x hx
    show b < (w.heap.push _).size
    rw [Array.size_push]
    rcases hx with hx | ⟨hx, _⟩
    · have := h.lt b x hx; omega
    · omega
theorem fr_push {w : World} {E : Nat} (o : Obj) (hE : E ≤ w.heap.size) : ∀ b, b < E → ({ w with heap := w.heap.push o } : World).heap[b]? = w.heap[b]? := fun b hb => heap_push (by omega)
/-- A new row, held with its contents. -/
theorem alloc_lst {G : Gh} {tl : Nat → Nat → Option (Nat × Nat)} {E : Nat} {toks : List Nat} {objs : List AO} {w : World} (h : Store G tl E toks objs w) (hE : E ≤ w.heap.size) {arr : Array Value} {e : TypeId} {cs : List V} {len cap : Nat} {k : LK}
    (hk : k = .frozen ∨ k = .lit) (hl : len ≤ cap) (hs : cs.length ≤ arr.size) (hv : ∀ j (hj : j < cs.length), VR G w (cs[j]'hj) (arr.getD j undef)) :
    ResOk G tl E objs w (.lst k cs len) toks objs (.slice (some ⟨w.heap.size, 0, none⟩) len cap) { w with heap := w.heap.push (.cells arr e) } (G.stab w.heap.size cs.length) tl := by
  have hw : WLe G w { w with heap := w.heap.push (.cells arr e) } := WLe.push _ h.lt
  refine ⟨?_, ?_, GLe.stab _ _ _, TLe.refl tl w, hw, h.push _ _ _, fun b hb _ => fr_push _ hE b hb, fun _ b hb => .inr hb, fun b x hb hx => hx.elim id (fun hq => absurd hq.1 (by omega))⟩
  · exact .lst (fun j => arr.getD j undef) hl (fun j hj => .inr ⟨rfl, by simpa using hj⟩) (fun j hj => push_cell (by omega)) (fun j hj => (hv j hj).mono (GLe.stab _ _ _) hw)
  · refine ⟨⟨fun t e cs len hv => ?_, fun cs len hv => ⟨_, _, by cases hv; rfl, hE, by show _ < (w.heap.push _).size; rw [Array.size_push]; exact Nat.lt_succ_self _, h.tb⟩, fun e th cs len hv => ?_⟩, fun vs as e => by cases e⟩
    · rcases hk with rfl | rfl <;> cases hv
    · rcases hk with rfl | rfl <;> cases hv
def newTl (tl : Nat → Nat → Option (Nat × Nat)) (t0 n0 b o : Nat) : Nat → Nat → Option (Nat × Nat) := fun t n => if t = t0 ∧ n = n0 then some (b, o) else tl t n
theorem newTl_old {tl : Nat → Nat → Option (Nat × Nat)} {t0 n0 b o t n : Nat} (h : t ≠ t0 ∨ n ≠ n0) : newTl tl t0 n0 b o t n = tl t n := by
  unfold newTl; rw [if_neg (by omega)]
theorem newTl_new {tl : Nat → Nat → Option (Nat × Nat)} {t0 n0 b o : Nat} : newTl tl t0 n0 b o t0 n0 = some (b, o) := by
  unfold newTl; rw [if_pos ⟨rfl, rfl⟩]
/-- A new row that is appended to. -/
theorem alloc_tok {G : Gh} {tl : Nat → Nat → Option (Nat × Nat)} {E : Nat} {toks : List Nat} {objs : List AO} {w : World} (h : Store G tl E toks objs w) (hE : E ≤ w.heap.size) {arr : Array Value} {e : TypeId} {cs : List V} {len cap sz : Nat}
    (hl : len ≤ cap) (hs : cap * sz ≤ arr.size) (hc : cs.length = len * sz) (hv : ∀ j (hj : j < cs.length), VR G w (cs[j]'hj) (arr.getD j undef)) :
    ResOk G tl E objs w (.lst (.tok toks.length sz) cs len) (toks ++ [cs.length]) objs (.slice (some ⟨w.heap.size, 0, none⟩) len cap) { w with heap := w.heap.push (.cells arr e) } (G.stab w.heap.size cs.length)
      (newTl tl toks.length cs.length w.heap.size 0) := by
  have hw : WLe G w { w with heap := w.heap.push (.cells arr e) } := WLe.push _ h.lt
  have hs' : cs.length ≤ arr.size := by have := Nat.mul_le_mul_right sz hl; omega
  have hS := h.push arr e cs.length
  have hget : ∀ t n, (toks ++ [cs.length])[t]? = some n → (toks[t]? = some n ∧ t < toks.length) ∨ (t = toks.length ∧ n = cs.length) := by
    intro t n ht
    rcases Nat.lt_or_ge t toks.length with h1 | h1
    · rw [List.getElem?_append_left h1] at ht; exact .inl ⟨ht, h1⟩
    · rw [List.getElem?_append_right h1] at ht
      rcases Nat.eq_or_lt_of_le h1 with h2 | h2
      · subst h2; simp at ht; exact .inr ⟨rfl, ht.symm⟩
      · rw [List.getElem?_eq_none (by simp; omega)] at ht; cases ht
  refine ⟨?_, ?_, GLe.stab _ _ _, ?_, hw, ?_, fun b hb _ => fr_push _ hE b hb, fun _ b hb => .inr hb, fun b x hb hx => hx.elim id (fun hq => absurd hq.1 (by omega))⟩
  · exact .lst (fun j => arr.getD j undef) hl (fun j hj => .inr ⟨rfl, by simpa using hj⟩) (fun j hj => push_cell (by omega)) (fun j hj => (hv j hj).mono (GLe.stab _ _ _) hw)
  · refine ⟨⟨fun t e' cs' len' hv' => ?_, fun cs len hv' => ?_, fun e th cs len hv' => ?_⟩, fun vs as e => ?_⟩ 
    rotate_left
    · cases hv'
    · cases hv'
    · cases e
    cases hv'
    exact ⟨w.heap.size, 0, cap, arr, e, (0, 0), by rw [newTl_new], rfl, heap_push_new, by omega, hc⟩
  · refine ⟨fun t n p hp => ?_, fun b hb => ?_⟩
    · rw [newTl_old]
      · exact hp
      · rcases Nat.lt_or_ge t toks.length with h1 | h1
        · left; omega
        · rw [h.tnews _ h1] at hp; cases hp
    · obtain ⟨t, n, o, hb⟩ := hb
      by_cases hc : t = toks.length ∧ n = cs.length
      · obtain ⟨rfl, rfl⟩ := hc
        rw [newTl_new] at hb; cases hb; right; exact Nat.le_refl _
      · rw [newTl_old (by omega)] at hb; exact .inl ⟨t, n, o, hb⟩
  · refine ⟨hS.cellsR, hS.vers, hS.news, ?_, ?_, ?_, hS.oo, ?_, ?_, hS.lt, ?_⟩
    · intro t n ht
      rcases hget t n ht with ⟨h1, h2⟩ | ⟨rfl, rfl⟩
      · obtain ⟨b, o, a2, el, g1, g2, g3, g4⟩ := hS.toksR t n h1
        exact ⟨b, o, a2, el, by rw [newTl_old (by omega)]; exact g1, g2, g3, g4⟩
      · refine ⟨w.heap.size, 0, arr, e, by rw [newTl_new], ⟨heap_push_new, by omega⟩, fun x hx hst => ?_, hE⟩
        rcases hst with hst | ⟨_, hst⟩
        · have := h.lt _ _ hst; omega
        · omega
    · intro t n ht m hm
      rcases hget t n ht with ⟨h1, h2⟩ | ⟨rfl, rfl⟩
      · rw [newTl_old (by omega)]; exact h.tnew t n h1 m hm
      · rw [newTl_old (by omega)]; exact h.tnews _ (Nat.le_refl _) _
    · intro t ht m
      rw [List.length_append, List.length_singleton] at ht
      rw [newTl_old (by omega)]; exact h.tnews t (by omega) m
    · intro t t' n n' b o o' ht ht' hl1 hl2
      rcases hget t n ht with ⟨h1, h2⟩ | ⟨rfl, rfl⟩ <;> rcases hget t' n' ht' with ⟨h3, h4⟩ | ⟨rfl, rfl⟩
      · rw [newTl_old (by omega)] at hl1 hl2; exact h.tt t t' n n' b o o' h1 h3 hl1 hl2
      · rw [newTl_old (by omega)] at hl1; rw [newTl_new] at hl2; cases hl2
        obtain ⟨b2, o2, a2, el, g1, g2, _⟩ := h.toksR t n h1
        rw [g1] at hl1; cases hl1
        have := lt_of_get g2.at_; omega
      · rw [newTl_old (by omega)] at hl2; rw [newTl_new] at hl1; cases hl1
        obtain ⟨b2, o2, a2, el, g1, g2, _⟩ := h.toksR t' n' h3
        rw [g1] at hl2; cases hl2
        have := lt_of_get g2.at_; omega
      · rfl
    · intro i cs' v t n b o o' hi ht hl1 hl2
      rcases hget t n ht with ⟨h1, h2⟩ | ⟨rfl, rfl⟩
      · rw [newTl_old (by omega)] at hl2; exact h.ot i cs' v t n b o o' hi h1 hl1 hl2
      · rw [newTl_new] at hl2; cases hl2
        obtain ⟨b2, o2, a2, el, g1, g2, _⟩ := h.cellsR i cs' v hi
        have hl1' : G.loc i v = some (w.heap.size, o) := hl1
        rw [g1] at hl1'; cases hl1'
        have := lt_of_get g2.at_; omega
    · rintro b ⟨t, n, o, hb⟩
      by_cases hc : t = toks.length ∧ n = cs.length
      · obtain ⟨rfl, rfl⟩ := hc
        rw [newTl_new] at hb; cases hb
        show _ < (w.heap.push _).size; rw [Array.size_push]; exact Nat.lt_succ_self _
      · rw [newTl_old (by omega)] at hb; exact hS.tbl b ⟨t, n, o, hb⟩
/-- A new object. -/
def Gh.newLoc (G : Gh) (id ver b o : Nat) : Gh := ⟨fun i v => if i = id ∧ v = ver then some (b, o) else G.loc i v, G.st⟩
theorem alloc_obj {G : Gh} {tl : Nat → Nat → Option (Nat × Nat)} {E : Nat} {toks : List Nat} {objs : List AO} {w : World} (h : Store G tl E toks objs w) (hE : E ≤ w.heap.size) {arr : Array Value} {e : TypeId} {cs : List V}
    (hs : cs.length ≤ arr.size) (hv : ∀ j (hj : j < cs.length), VR G w (cs[j]'hj) (arr.getD j undef)) :
    GLe G (G.newLoc objs.length 0 w.heap.size 0) ∧ WLe G w { w with heap := w.heap.push (.cells arr e) } ∧ Store (G.newLoc objs.length 0 w.heap.size 0) tl E toks (objs ++ [.cells cs 0]) { w with heap := w.heap.push (.cells arr e) } ∧
    (∀ b, b < E → ¬ Owned G objs b → ({ w with heap := w.heap.push (.cells arr e) } : World).heap[b]? = w.heap[b]?) ∧ (∀ id b, OwnedAt (G.newLoc objs.length 0 w.heap.size 0) (objs ++ [.cells cs 0]) id b → E ≤ b ∨ OwnedAt G objs id b) := by
  have hw : WLe G w { w with heap := w.heap.push (.cells arr e) } := WLe.push _ h.lt
  have hg : GLe G (G.newLoc objs.length 0 w.heap.size 0) := by
    refine ⟨fun i v p hp => ?_, fun _ _ h => h⟩
    simp only [Gh.newLoc]; rw [if_neg]
    · exact hp
    · rintro ⟨rfl, rfl⟩
      rw [h.news _ (Nat.le_refl _)] at hp; cases hp
  have hget : ∀ t o, (objs ++ [AO.cells cs 0])[t]? = some o → (objs[t]? = some o ∧ t < objs.length) ∨ (t = objs.length ∧ o = .cells cs 0) := by
    intro t n ht
    rcases Nat.lt_or_ge t objs.length with h1 | h1
    · rw [List.getElem?_append_left h1] at ht; exact .inl ⟨ht, h1⟩
    · rw [List.getElem?_append_right h1] at ht
      rcases Nat.eq_or_lt_of_le h1 with h2 | h2
      · subst h2; simp at ht; exact .inr ⟨rfl, ht.symm⟩
      · rw [List.getElem?_eq_none (by simp; omega)] at ht; cases ht
  have hold : ∀ i v, i < objs.length → (G.newLoc objs.length 0 w.heap.size 0).loc i v = G.loc i v := fun i v hi => by simp only [Gh.newLoc]; rw [if_neg (by omega)]
  have hblk : ∀ i cs v b o, objs[i]? = some (.cells cs v) → G.loc i v = some (b, o) → b < w.heap.size := by
    intro i cs v b o hi hl
    obtain ⟨b2, o2, a2, el, g1, g2, _⟩ := h.cellsR i cs v hi
    rw [g1] at hl; cases hl; exact lt_of_get g2.at_
  refine ⟨hg, hw, ?_, fun b hb _ => fr_push _ hE b hb, ?_⟩
  · refine ⟨?_, ?_, ?_, ?_, h.tnew, h.tnews, ?_, h.tt, ?_, ?_, fun b hb => by show b < (w.heap.push _).size; rw [Array.size_push]; have := h.tbl b hb; omega⟩
    · intro id cs' ver hi
      rcases hget id _ hi with ⟨h1, h2⟩ | ⟨rfl, h2⟩
      · obtain ⟨b, o, a2, el, g1, ⟨g2, g3⟩, g4, g5⟩ := h.cellsR id cs' ver h1
        exact ⟨b, o, a2, el, by rw [hold _ _ h2]; exact g1, ⟨(heap_push (lt_of_get g2)).trans g2, g3⟩, fun j hj => (g4 j hj).mono hg hw, g5⟩
      · cases h2
        refine ⟨w.heap.size, 0, arr, e, by simp [Gh.newLoc], ⟨heap_push_new, by omega⟩, fun j hj => by rw [Nat.zero_add]; exact (hv j hj).mono hg hw, fun x hx => ?_⟩
        have := h.lt _ _ hx; omega
    · intro id cs' ver hi v' hv'
      rcases hget id _ hi with ⟨h1, h2⟩ | ⟨rfl, h2⟩
      · rw [hold _ _ h2]; exact h.vers id cs' ver h1 v' hv'
      · cases h2
        simp only [Gh.newLoc]; rw [if_neg (by omega)]; exact h.news _ (Nat.le_refl _) _
    · intro id hid v'
      rw [List.length_append, List.length_singleton] at hid
      simp only [Gh.newLoc]; rw [if_neg (by omega)]; exact h.news _ (by omega) _
    · intro t n ht
      obtain ⟨b, o, a2, el, g1, ⟨g2, g3⟩, g4, g5⟩ := h.toksR t n ht
      exact ⟨b, o, a2, el, g1, ⟨(heap_push (lt_of_get g2)).trans g2, g3⟩, g4, g5⟩
    · intro i i' c1 c2 v v' b o o' hi hi' l1 l2
      rcases hget i _ hi with ⟨h1, h2⟩ | ⟨rfl, h2⟩ <;> rcases hget i' _ hi' with ⟨h3, h4⟩ | ⟨rfl, h4⟩
      · rw [hold _ _ h2] at l1; rw [hold _ _ h4] at l2; exact h.oo i i' c1 c2 v v' b o o' h1 h3 l1 l2
      · cases h4; rw [hold _ _ h2] at l1; simp [Gh.newLoc] at l2
        have := hblk _ _ _ _ _ h1 l1; omega
      · cases h2; rw [hold _ _ h4] at l2; simp [Gh.newLoc] at l1
        have := hblk _ _ _ _ _ h3 l2; omega
      · rfl
    · intro i c1 v t n b o o' hi ht l1 l2
      rcases hget i _ hi with ⟨h1, h2⟩ | ⟨rfl, h2⟩
      · rw [hold _ _ h2] at l1; exact h.ot i c1 v t n b o o' h1 ht l1 l2
      · cases h2; simp [Gh.newLoc] at l1
        obtain ⟨b2, o2, a2, el, g1, g2, _⟩ := h.toksR t n ht
        rw [g1] at l2; cases l2
        have := lt_of_get g2.at_; omega
    · intro b x hx
      show b < (w.heap.push _).size
      rw [Array.size_push]; have := h.lt b x hx; omega
  · rintro id b ⟨cs', ver, o, hi, hl⟩
    rcases hget id _ hi with ⟨h1, h2⟩ | ⟨rfl, h2⟩
    · exact .inr ⟨cs', ver, o, h1, by rw [hold _ _ h2] at hl; exact hl⟩
    · cases h2; simp [Gh.newLoc] at hl; left; omega
end Go.Ab
