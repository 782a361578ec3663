import Derived.Test.YtdfcbophcfjakaaAb12
set_option linter.unusedSimpArgs false
set_option linter.unusedVariables false
set_option linter.unusedSectionVars false
/- What comes back from a call, and how it is held. -/
namespace Go.Ab
def isFresh : V → Bool | .lst (.fresh _ _) _ _ => true | _ => false
/-- A part of a result. -/
def PartOk (G : Gh) (objs : List AO) (E : Nat) (w : World) (v : V) (c : Value) : Prop :=
  (isFresh v = false → VR G w v c ∧ (∀ k cs len, v = .lst k cs len → k = .frozen) ∧ ∀ vs, v ≠ .tup vs) ∧
  ∀ e th cs len, v = .lst (.fresh e th) cs len → ∃ b o p cap arr el, c = .slice (some ⟨b, p, none⟩) len cap ∧ (0 < cap ∨ th = false → p = o) ∧ len ≤ cap ∧ E ≤ b ∧ w.heap[b]? = some (.cells arr el (0, 0)) ∧ o + cs.length ≤ arr.size ∧
    (0 < cap ∨ th = false → o + cap * e ≤ arr.size) ∧ cs.length = len * e ∧ (∀ x, th = true ∨ o + cs.length ≤ x → ¬ G.st b x) ∧ (∀ id, ¬ OwnedAt G objs id b) ∧ (∀ j (h : j < cs.length), VR G w (cs[j]'h) (arr.getD (o + j) Go.undef)) ∧ (th = false → VR G w v c)
def PartsOk (G : Gh) (objs : List AO) (E : Nat) (w : World) : List V → List Value → Prop
  | [], [] => True
  | v :: vs, c :: cs => PartOk G objs E w v c ∧ PartsOk G objs E w vs cs ∧ (isFresh v = true → ∀ u ∈ vs, isFresh u = false)
  | _, _ => False
def ResultOk (G : Gh) (objs : List AO) (E : Nat) (w : World) (v : V) (c : Value) : Prop :=
  match v with
  | .tup vs => ∃ as : Array Value, c = .tuple as ∧ PartsOk G objs E w vs as.toList
  | v => PartOk G objs E w v c
theorem PartOk.mono {G G' : Gh} {objs objs' : List AO} {E : Nat} {w : World} {v : V} {c : Value} (h : PartOk G objs E w v c) (hg : GLe G G') (hf : isFresh v = false) : PartOk G' objs' E w v c := by
  refine ⟨fun _ => ⟨(h.1 hf).1.mono hg (WLe.refl G w), (h.1 hf).2⟩, ?_⟩
  rintro e th cs len rfl; cases hf
theorem PartsOk.mono {G G' : Gh} {objs objs' : List AO} {E : Nat} {w : World} (hg : GLe G G') : ∀ {vs : List V} {cs : List Value} (_ : PartsOk G objs E w vs cs) (_ : ∀ u ∈ vs, isFresh u = false), PartsOk G' objs' E w vs cs
  | [], [], _, _ => trivial
  | v :: vs, c :: cs, h, hf => ⟨h.1.mono hg (hf v (by simp)), PartsOk.mono hg h.2.1 (fun u hu => hf u (by simp [hu])), h.2.2⟩
  | [], _ :: _, h, _ => h.elim
  | _ :: _, [], h, _ => h.elim
/-- What holds behind the binding of a result: the world is the same. -/
structure Bound (G : Gh) (tl : Nat → Nat → Option (Nat × Nat)) (Ec E : Nat) (objs : List AO) (w : World) (toks' : List Nat) (objs' : List AO) (G' : Gh) (tl' : Nat → Nat → Option (Nat × Nat)) : Prop where
  gle : GLe G G'
  old : ∀ t n p, tl t n = some p → tl' t n = some p
  new : ∀ b, TB tl' b → TB tl b ∨ E ≤ b
  store : Store G' tl' Ec toks' objs' w
  prov : ∀ id b, OwnedAt G' objs' id b → E ≤ b ∨ OwnedAt G objs id b
  stn : ∀ b x, b < E → G'.st b x → G.st b x
  ext : ∃ l, objs' = objs ++ l
theorem Bound.same {G : Gh} {tl : Nat → Nat → Option (Nat × Nat)} {Ec E : Nat} {toks : List Nat} {objs : List AO} {w : World} (h : Store G tl Ec toks objs w) : Bound G tl Ec E objs w toks objs G tl :=
  ⟨GLe.refl G, fun _ _ _ h => h, fun _ h => .inl h, h, fun _ _ h => .inr h, fun _ _ _ h => h, [], by simp⟩
section
variable {G : Gh} {tl : Nat → Nat → Option (Nat × Nat)} {Ec E : Nat} {toks : List Nat} {objs : List AO} {w : World}
/-- A row that comes back is held with its contents. -/
theorem bind_freeze (hs : Store G tl Ec toks objs w) (hTB : ∀ b, TB tl b → b < E) {b n : Nat} (hE : E ≤ b) (hb : b < w.heap.size) (hno : ∀ id, ¬ OwnedAt G objs id b) : Bound G tl Ec E objs w toks objs (G.stab b n) tl := by
  refine ⟨GLe.stab _ _ _, fun _ _ _ h => h, fun _ h => .inl h, ⟨?_, hs.vers, hs.news, ?_, hs.tnew, hs.tnews, hs.oo, hs.tt, hs.ot, ?_, hs.tbl, hs.maps.keep (GLe.stab _ _ _) (WLe.refl G w) (fun _ _ _ h => h) (fun _ _ _ _ => rfl) (fun i es b2 x a c hi hl _ hx => hx.elim id fun q => by have e := q.1; subst e; exact absurd ⟨0, 0, .inr ⟨rfl, es, hi⟩, hl⟩ (hno i)) (fun _ _ h => h)⟩, fun _ _ h => .inr h, fun b' x hb' hx => hx.elim id (fun hq => absurd hq.1 (by omega)), [], by simp⟩
  · intro id cs ver hi
    obtain ⟨b2, o2, a2, el, h1, h2, h3, h4⟩ := hs.cellsR id cs ver hi
    refine ⟨b2, o2, a2, el, h1, ⟨h2.at_, h2.fit⟩, fun j hj => (h3 j hj).mono (GLe.stab _ _ _) (WLe.refl G w), fun x hx => ?_⟩
    rcases hx with hx | ⟨rfl, _⟩
    · exact h4 x hx
    · exact hno id (.cells hi h1)
  · intro t m ht
    obtain ⟨b2, o2, a2, el, h1, h2, h3, h4⟩ := hs.toksR t m ht
    refine ⟨b2, o2, a2, el, h1, ⟨h2.at_, h2.fit⟩, fun x hx hst => ?_, h4⟩
    rcases hst with hst | ⟨rfl, _⟩
    · exact h3 x hx hst
    · have := hTB _ ⟨t, m, o2, h1⟩; omega
  · intro b2 x hx
    rcases hx with hx | ⟨rfl, _⟩
    · exact hs.lt b2 x hx
    · exact hb
/-- It is held as a row that is appended to. -/
theorem bind_tok (hs : Store G tl Ec toks objs w) (hTB : ∀ b, TB tl b → b < E) (hEE : Ec ≤ E) {b o n : Nat} {arr : Array Value} {el : TypeId} (hE : E ≤ b) (hb : w.heap[b]? = some (.cells arr el (0, 0))) (hfit : o + n ≤ arr.size) (hst : ∀ x, o + n ≤ x → ¬ G.st b x) (hno : ∀ id, ¬ OwnedAt G objs id b) :
    Bound G tl Ec E objs w (toks ++ [n]) objs G (newTl tl toks.length n b o) := by
  have hget : ∀ t m, (toks ++ [n])[t]? = some m → (toks[t]? = some m ∧ t < toks.length) ∨ (t = toks.length ∧ m = n) := by
    intro t m ht
    rcases Nat.lt_or_ge t toks.length with h1 | h1
    · rw [List.getElem?_append_left h1] at ht; exact .inl ⟨ht, h1⟩
    · rw [List.getElem?_append_right h1] at ht
      rcases Nat.eq_or_lt_of_le h1 with h2 | h2
      · subst h2; simp at ht; exact .inr ⟨rfl, ht.symm⟩
      · rw [List.getElem?_eq_none (by simp; omega)] at ht; cases ht
  have hnb : ∀ t m b2 o2, tl t m = some (b2, o2) → b2 < E := fun t m b2 o2 h => hTB b2 ⟨t, m, o2, h⟩
  have htb : ∀ b2, TB (newTl tl toks.length n b o) b2 → TB tl b2 ∨ b2 = b := by
    rintro b2 ⟨t, m, o2, h⟩
    by_cases hc : t = toks.length ∧ m = n
    · obtain ⟨rfl, rfl⟩ := hc
      rw [newTl_new] at h; cases h; exact .inr rfl
    · rw [newTl_old (by omega)] at h; exact .inl ⟨t, m, o2, h⟩
  refine ⟨GLe.refl G, fun t m p hp => ?_, fun b2 h => (htb b2 h).imp id (fun h => by omega), ⟨hs.cellsR, hs.vers, hs.news, ?_, ?_, ?_, hs.oo, ?_, ?_, hs.lt, ?_, hs.maps⟩, fun _ _ h => .inr h, fun _ _ _ h => h, [], by simp⟩
  · rw [newTl_old]
    · exact hp
    · rcases Nat.lt_or_ge t toks.length with h1 | h1
      · left; omega
      · rw [hs.tnews _ h1] at hp; cases hp
  · intro t m ht
    rcases hget t m ht with ⟨h1, h2⟩ | ⟨rfl, rfl⟩
    · obtain ⟨b2, o2, a2, el2, g1, g2, g3, g4⟩ := hs.toksR t m h1
      exact ⟨b2, o2, a2, el2, by rw [newTl_old (by omega)]; exact g1, g2, g3, g4⟩
    · exact ⟨b, o, arr, el, newTl_new, ⟨hb, hfit⟩, hst, by omega⟩
  · intro t m ht k hk
    rcases hget t m ht with ⟨h1, h2⟩ | ⟨rfl, rfl⟩
    · rw [newTl_old (by omega)]; exact hs.tnew t m h1 k hk
    · rw [newTl_old (by omega)]; exact hs.tnews _ (Nat.le_refl _) _
  · intro t ht m
    rw [List.length_append, List.length_singleton] at ht
    rw [newTl_old (by omega)]; exact hs.tnews t (by omega) m
  · intro t t' m m' b2 o2 o2' ht ht' hl1 hl2
    rcases hget t m ht with ⟨h1, h2⟩ | ⟨rfl, rfl⟩ <;> rcases hget t' m' ht' with ⟨h3, h4⟩ | ⟨rfl, rfl⟩
    · rw [newTl_old (by omega)] at hl1 hl2; exact hs.tt t t' m m' b2 o2 o2' h1 h3 hl1 hl2
    · rw [newTl_old (by omega)] at hl1; rw [newTl_new] at hl2; cases hl2
      have := hnb _ _ _ _ hl1; omega
    · rw [newTl_old (by omega)] at hl2; rw [newTl_new] at hl1; cases hl1
      have := hnb _ _ _ _ hl2; omega
    · rfl
  · intro i cs' v t m b2 o2 o2' hi ht hl1 hl2
    rcases hget t m ht with ⟨h1, h2⟩ | ⟨rfl, rfl⟩
    · rw [newTl_old (by omega)] at hl2; exact hs.ot i cs' v t m b2 o2 o2' hi h1 hl1 hl2
    · rw [newTl_new] at hl2; cases hl2
      exact hno i (.cells hi hl1)
  · intro b2 h
    rcases htb b2 h with h | rfl
    · exact hs.tbl _ h
    · exact lt_of_get hb
/-- It is held as an object. -/
theorem bind_ref (hs : Store G tl Ec toks objs w) (hTB : ∀ b, TB tl b → b < E) {b o : Nat} {arr : Array Value} {el : TypeId} {cs : List V} (hE : E ≤ b) (hb : w.heap[b]? = some (.cells arr el (0, 0))) (hfit : o + cs.length ≤ arr.size) (hst : ∀ x, ¬ G.st b x) (hno : ∀ id, ¬ OwnedAt G objs id b)
    (hv : ∀ j (hj : j < cs.length), VR G w (cs[j]'hj) (arr.getD (o + j) undef)) : Bound G tl Ec E objs w toks (objs ++ [.cells cs 0]) (G.newLoc objs.length 0 b o) tl := by
  have hg : GLe G (G.newLoc objs.length 0 b o) := by
    refine ⟨fun i v p hp => ?_, fun _ _ h => h⟩
    simp only [Gh.newLoc]; rw [if_neg]
    · exact hp
    · rintro ⟨rfl, rfl⟩
      rw [hs.news _ (Nat.le_refl _)] at hp; cases hp
  have hget : ∀ t o, (objs ++ [AO.cells cs 0])[t]? = some o → (objs[t]? = some o ∧ t < objs.length) ∨ (t = objs.length ∧ o = .cells cs 0) := by
    intro t n ht
    rcases Nat.lt_or_ge t objs.length with h1 | h1
    · rw [List.getElem?_append_left h1] at ht; exact .inl ⟨ht, h1⟩
    · rw [List.getElem?_append_right h1] at ht
      rcases Nat.eq_or_lt_of_le h1 with h2 | h2
      · subst h2; simp at ht; exact .inr ⟨rfl, ht.symm⟩
      · rw [List.getElem?_eq_none (by simp; omega)] at ht; cases ht
  have hold : ∀ i v, i < objs.length → (G.newLoc objs.length 0 b o).loc i v = G.loc i v := fun i v hi => by simp only [Gh.newLoc]; rw [if_neg (by omega)]
  refine ⟨hg, fun _ _ _ h => h, fun _ h => .inl h, ⟨?_, ?_, ?_, ?_, hs.tnew, hs.tnews, ?_, hs.tt, ?_, hs.lt, hs.tbl, hs.maps.keep hg (WLe.refl G w) (fun _ _ _ h => h) (fun id es v hi => (hget id _ hi).elim (fun q => hold _ _ q.2) fun q => by cases q.2) (fun _ _ _ _ _ _ _ _ _ hx => hx) (fun id es hi => (hget id _ hi).elim (fun q => q.1) fun q => by cases q.2)⟩, ?_, fun _ _ _ h => h, _, rfl⟩
  · intro id cs' ver hi
    rcases hget id _ hi with ⟨h1, h2⟩ | ⟨rfl, h2⟩
    · obtain ⟨b2, o2, a2, el2, g1, g2, g4, g5⟩ := hs.cellsR id cs' ver h1
      exact ⟨b2, o2, a2, el2, by rw [hold _ _ h2]; exact g1, ⟨g2.at_, g2.fit⟩, fun j hj => (g4 j hj).mono hg (WLe.refl G w), g5⟩
    · cases h2
      exact ⟨b, o, arr, el, by simp [Gh.newLoc], ⟨hb, hfit⟩, fun j hj => (hv j hj).mono hg (WLe.refl G w), hst⟩
  · intro id cs' ver hi v' hv'
    rcases hget id _ hi with ⟨h1, h2⟩ | ⟨rfl, h2⟩
    · rw [hold _ _ h2]; exact hs.vers id cs' ver h1 v' hv'
    · cases h2
      simp only [Gh.newLoc]; rw [if_neg (by omega)]; exact hs.news _ (Nat.le_refl _) _
  · intro id hid v'
    rw [List.length_append, List.length_singleton] at hid
    simp only [Gh.newLoc]; rw [if_neg (by omega)]; exact hs.news _ (by omega) _
  · intro t n ht
    obtain ⟨b2, o2, a2, el2, g1, g2, g4, g5⟩ := hs.toksR t n ht
    exact ⟨b2, o2, a2, el2, g1, ⟨g2.at_, g2.fit⟩, g4, g5⟩
  · intro i i' c1 c2 v v' b2 o2 o2' hi hi' l1 l2
    rcases hget i _ hi with ⟨h1, h2⟩ | ⟨rfl, h2⟩ <;> rcases hget i' _ hi' with ⟨h3, h4⟩ | ⟨rfl, h4⟩
    · rw [hold _ _ h2] at l1; rw [hold _ _ h4] at l2; exact hs.oo i i' c1 c2 v v' b2 o2 o2' h1 h3 l1 l2
    · cases h4; rw [hold _ _ h2] at l1; simp [Gh.newLoc] at l2
      exact absurd (OwnedAt.cells (o := o2) h1 (by rw [l2.1]; exact l1)) (hno i)
    · cases h2; rw [hold _ _ h4] at l2; simp [Gh.newLoc] at l1
      exact absurd (OwnedAt.cells (o := o2') h3 (by rw [l1.1]; exact l2)) (hno i')
    · rfl
  · intro i c1 v t n b2 o2 o2' hi ht l1 l2
    rcases hget i _ hi with ⟨h1, h2⟩ | ⟨rfl, h2⟩
    · rw [hold _ _ h2] at l1; exact hs.ot i c1 v t n b2 o2 o2' h1 ht l1 l2
    · cases h2; simp [Gh.newLoc] at l1
      have := hTB _ ⟨t, n, o2', l2⟩; omega
  · rintro id b2 ⟨ver, o2, ⟨cs', hi⟩ | ⟨rfl, es, hi⟩, hl⟩
    · rcases hget id _ hi with ⟨h1, h2⟩ | ⟨rfl, h2⟩
      · exact .inr ⟨ver, o2, .inl ⟨cs', h1⟩, by rw [hold _ _ h2] at hl; exact hl⟩
      · cases h2; simp [Gh.newLoc] at hl; left; omega
    · rcases hget id _ hi with ⟨h1, h2⟩ | ⟨rfl, h2⟩
      · exact .inr ⟨0, o2, .inr ⟨rfl, es, h1⟩, by rw [hold _ _ h2] at hl; exact hl⟩
      · cases h2
/-- One part is bound. -/
theorem bind1_ok (hs : Store G tl Ec toks objs w) (hTB : ∀ b, TB tl b → b < E) (hEE : Ec ≤ E) {m : Md} {v : V} {c : Value} {r : V × List Nat × List AO} (hp : PartOk G objs E w v c) (h : bind1 m toks objs v = some r) :
    ∃ G' tl', VR G' w r.1 c ∧ TokOk tl' Ec w r.1 c ∧ Bound G tl Ec E objs w r.2.1 r.2.2 G' tl' ∧ (isFresh v = false → G' = G ∧ tl' = tl ∧ r.2.1 = toks ∧ r.2.2 = objs) := by
  obtain ⟨p1, p2⟩ := hp
  have frozen : ∀ v, v ≠ .undef → (isFresh v = false) → VR G w v c → ∃ G' tl', VR G' w (demote v) c ∧ TokOk tl' Ec w (demote v) c ∧ Bound G tl Ec E objs w toks objs G' tl' ∧ (isFresh v = false → G' = G ∧ tl' = tl ∧ toks = toks ∧ objs = objs) := by
    intro v _ _ hv
    exact ⟨G, tl, hv.demote, TokOk.of (demote_plain v).1, Bound.same hs, fun _ => ⟨rfl, rfl, rfl, rfl⟩⟩
  by_cases hf : isFresh v = true
  · obtain ⟨e, th, cs, len, rfl⟩ : ∃ e th cs len, v = .lst (.fresh e th) cs len := by
      unfold isFresh at hf; split at hf
      · exact ⟨_, _, _, _, rfl⟩
      · cases hf
    obtain ⟨b, o, p, cap, arr, el, e1, e2, e3, e4, e5, e6, e7, e8, e9, e10, e11, e12⟩ := p2 e th cs len rfl
    have froz : ∃ G' tl', VR G' w (.lst .frozen cs len) c ∧ TokOk tl' Ec w (.lst .frozen cs len) c ∧ Bound G tl Ec E objs w toks objs G' tl' := by
      refine ⟨_, tl, ?_, TokOk.of (by intro k cs len h; cases h; rfl), bind_freeze (n := o + cs.length) hs hTB e4 (lt_of_get e5) e10⟩
      rw [e1]
      refine .lst (fun j => arr.getD (o + j) Go.undef) e3 ?_ ?_ ?_
      · intro j hj
        have hcap : 0 < cap := by
          rcases Nat.eq_zero_or_pos cap with h0 | h0
          · have : len = 0 := by omega
            rw [this, Nat.zero_mul] at e8; omega
          · exact h0
        exact .inr ⟨rfl, by rw [e2 (.inl hcap)]; show o + j < _; omega⟩
      · intro j hj
        have hcap : 0 < cap := by
          rcases Nat.eq_zero_or_pos cap with h0 | h0
          · have : len = 0 := by omega
            rw [this, Nat.zero_mul] at e8; omega
          · exact h0
        rw [e2 (.inl hcap)]
        have e9 : ((⟨b, o, none⟩ : Addr).add j) = ⟨b, o + j, none⟩ := by unfold Addr.add; split <;> simp_all
        rw [e9]; unfold World.cell?
        simp only [e5]
        have : o + j < arr.size := by omega
        simp [Array.getD, this]
      · exact fun j hj => (e11 j hj).mono (GLe.stab _ _ _) (WLe.refl G w)
    have nf : isFresh (.lst (.fresh e th) cs len) = false → False := fun h => by cases h
    cases m with
    | frozen =>
      cases th <;> (simp only [bind1] at h; cases h; obtain ⟨G', tl', q1, q2, q3⟩ := froz; exact ⟨G', tl', q1, q2, q3, fun h => (nf h).elim⟩)
    | tok =>
      cases th with
      | true => simp only [bind1] at h; cases h; obtain ⟨G', tl', q1, q2, q3⟩ := froz; exact ⟨G', tl', q1, q2, q3, fun h => (nf h).elim⟩
      | false =>
        simp only [bind1] at h; cases h
        refine ⟨G, _, (e12 rfl).lk, ⟨fun t e' cs' len' hv' => ?_, fun cs len hv' => ?_, fun e th cs len hv' => ?_⟩, bind_tok (o := o) hs hTB hEE e4 e5 e6 (fun x hx => e9 x (.inr hx)) e10, fun h => (nf h).elim⟩
        · cases hv'
          exact ⟨b, o, cap, arr, el, (0, 0), newTl_new, by rw [e1, e2 (.inr rfl)], e5, e7 (.inr rfl), e8⟩
        · cases hv'
        · cases hv'
    | ref =>
      cases th with
      | false => simp only [bind1] at h; cases h; obtain ⟨G', tl', q1, q2, q3⟩ := froz; exact ⟨G', tl', q1, q2, q3, fun h => (nf h).elim⟩
      | true =>
        simp only [bind1] at h; cases h
        refine ⟨_, tl, ?_, TokOk.of (by intro k cs len h; cases h), bind_ref (o := o) hs hTB e4 e5 e6 (fun x => e9 x (.inl rfl)) e10 e11, fun h => (nf h).elim⟩
        rw [e1]
        exact .ref (b := b) (o := o) (by simp [Gh.newLoc]) e3 (fun h => e2 (.inl h)) e5 (fun h => e7 (.inl h))
  · have hf' : isFresh v = false := by simpa using hf
    have hv := (p1 hf').1
    have hr : r = (demote v, toks, objs) := by
      unfold bind1 at h
      split at h
      · cases hf'
      · cases hf'
      · exact (Option.some.inj h).symm
    subst hr
    exact ⟨G, tl, hv.demote, TokOk.of (demote_plain v).1, Bound.same hs, fun _ => ⟨rfl, rfl, rfl, rfl⟩⟩
end
theorem Bound.trans {G G1 G2 : Gh} {tl tl1 tl2 : Nat → Nat → Option (Nat × Nat)} {Ec E : Nat} {objs objs1 objs2 : List AO} {toks1 toks2 : List Nat} {w : World} (h : Bound G tl Ec E objs w toks1 objs1 G1 tl1) (k : Bound G1 tl1 Ec E objs1 w toks2 objs2 G2 tl2) : Bound G tl Ec E objs w toks2 objs2 G2 tl2 := by
  refine ⟨h.gle.trans k.gle, fun t n p q => k.old t n p (h.old t n p q), fun b q => (k.new b q).elim (h.new b) .inr, k.store, fun id b q => (k.prov id b q).elim .inl (h.prov id b), fun b x hb q => h.stn b x hb (k.stn b x hb q), ?_⟩
  obtain ⟨l, rfl⟩ := h.ext
  obtain ⟨l', rfl⟩ := k.ext
  exact ⟨l ++ l', by simp⟩
/-- All parts are bound. (Of the tokens' blocks: at most one is new.) -/
theorem bindAll_ok {Ec E : Nat} {w : World} (hEE : Ec ≤ E) : ∀ (ms : List Md) (vs : List V) (cs : List Value) (toks : List Nat) (objs : List AO) (G : Gh) (tl : Nat → Nat → Option (Nat × Nat)) (r : List V × List Nat × List AO)
    (_ : Store G tl Ec toks objs w) (_ : (∀ b, TB tl b → b < E) ∨ ∀ u ∈ vs, isFresh u = false) (_ : PartsOk G objs E w vs cs) (_ : bindAll ms toks objs vs = some r),
    ∃ G' tl', r.1.length = cs.length ∧ (∀ j (h : j < r.1.length), VR G' w (r.1[j]'h) (cs.getD j Go.undef) ∧ TokOk tl' Ec w (r.1[j]'h) (cs.getD j Go.undef)) ∧ Bound G tl Ec E objs w r.2.1 r.2.2 G' tl' := by
  intro ms vs
  induction vs generalizing ms with
  | nil =>
    intro cs toks objs G tl r hs _ hp h
    simp only [bindAll] at h; cases h
    cases cs with
    | nil => exact ⟨G, tl, rfl, fun j h => absurd h (by simp), Bound.same hs⟩
    | cons c cs => exact hp.elim
  | cons v vs ih =>
    intro cs toks objs G tl r hs hTB hp h
    cases cs with
    | nil => exact hp.elim
    | cons c cs =>
      obtain ⟨h1, h2, h3⟩ := hp
      simp only [bindAll] at h
      split at h
      case h_2 => cases h
      rename_i v' toks1 objs1 hb1
      split at h
      case h_2 => cases h
      rename_i vs' toks2 objs2 hb2
      cases h
      have fin : ∀ G1 tl1, VR G1 w v' c → TokOk tl1 Ec w v' c → Bound G tl Ec E objs w toks1 objs1 G1 tl1 → PartsOk G1 objs1 E w vs cs → ((∀ b, TB tl1 b → b < E) ∨ ∀ u ∈ vs, isFresh u = false) →
          ∃ G' tl', (v' :: vs').length = (c :: cs).length ∧ (∀ j (h : j < (v' :: vs').length), VR G' w ((v' :: vs')[j]'h) ((c :: cs).getD j Go.undef) ∧ TokOk tl' Ec w ((v' :: vs')[j]'h) ((c :: cs).getD j Go.undef)) ∧ Bound G tl Ec E objs w toks2 objs2 G' tl' := by
        intro G1 tl1 q1 q2 q3 q4 q5
        obtain ⟨G2, tl2, k1, k2, k3⟩ := ih ms.tail cs toks1 objs1 G1 tl1 _ q3.store q5 q4 hb2
        refine ⟨G2, tl2, by simpa using k1, fun j hj => ?_, q3.trans k3⟩
        cases j with
        | zero =>
          refine ⟨by simpa using q1.mono k3.gle (WLe.refl G1 w), ?_⟩
          obtain ⟨t1, t2, t3⟩ := q2
          refine ⟨fun t e cs len hv => ?_, fun cs len hv => ?_, t3⟩
          · obtain ⟨b, o, cap, arr, el, fz, g1, g2⟩ := t1 t e cs len hv
            exact ⟨b, o, cap, arr, el, fz, k3.old _ _ _ g1, by simpa using g2⟩
          · obtain ⟨a, cap, g1, g2, g3, g4⟩ := t2 cs len hv
            have hff : v' ≠ .lst .lit cs len := by
              unfold bind1 at hb1
              split at hb1
              · cases hb1; simp
              · cases hb1; simp
              · cases hb1; intro hd; have := (demote_plain _).1 _ _ _ hd; cases this
            exact absurd hv hff
        | succ j => simpa using k2 j (by simpa using hj)
      by_cases hf : isFresh v = true
      · have hTB' := hTB.resolve_right (fun hx => by have := hx v (by simp); rw [hf] at this; cases this)
        obtain ⟨G1, tl1, q1, q2, q3, q4⟩ := bind1_ok hs hTB' hEE h1 hb1
        exact fin G1 tl1 q1 q2 q3 (PartsOk.mono q3.gle h2 (h3 hf)) (.inr (h3 hf))
      · have hf' : isFresh v = false := by simpa using hf
        have hv := (h1.1 hf').1
        have hr : (v', toks1, objs1) = (demote v, toks, objs) := by
          unfold bind1 at hb1
          split at hb1
          · cases hf'
          · cases hf'
          · exact (Option.some.inj hb1).symm
        cases hr
        exact fin G tl hv.demote (TokOk.of (demote_plain v).1) (Bound.same hs) h2 (hTB.imp id (fun hx u hu => hx u (by simp [hu])))
theorem bindRes_ok {Ec E : Nat} {w : World} (hEE : Ec ≤ E) {ms : List Md} {v : V} {c : Value} {toks : List Nat} {objs : List AO} {G : Gh} {tl : Nat → Nat → Option (Nat × Nat)} {r : V × List Nat × List AO}
    (hs : Store G tl Ec toks objs w) (hTB : ∀ b, TB tl b → b < E) (hp : ResultOk G objs E w v c) (h : bindRes ms toks objs v = some r) :
    ∃ G' tl', VR G' w r.1 c ∧ TokT tl' Ec w r.1 c ∧ Bound G tl Ec E objs w r.2.1 r.2.2 G' tl' := by
  by_cases ht : ∃ vs, v = .tup vs
  · obtain ⟨vs, rfl⟩ := ht
    obtain ⟨as, rfl, hps⟩ := hp
    simp only [bindRes] at h
    cases hb : bindAll ms toks objs vs with
    | none => rw [hb] at h; cases h
    | some r' =>
      rw [hb] at h; cases h
      obtain ⟨G', tl', q1, q2, q3⟩ := bindAll_ok hEE ms vs as.toList toks objs G tl r' hs (.inl hTB) hps hb
      have hg : ∀ j, as.toList.getD j Go.undef = as.getD j Go.undef := fun j => by simp [List.getD, Array.getD_eq_getD_getElem?]
      refine ⟨G', tl', .tup (by simpa using q1.symm) (fun j hj => by rw [← hg]; exact (q2 j hj).1), ⟨TokOk.of (by intro k cs len h; cases h), fun vs2 as2 e1 e2 j hj => ?_⟩, q3⟩
      cases e1; cases e2
      rw [← hg]; exact (q2 j hj).2
  · have hp' : PartOk G objs E w v c := by
      unfold ResultOk at hp
      split at hp
      · exact absurd ⟨_, rfl⟩ ht
      · exact hp
    have hb : bind1 (ms.headD .frozen) toks objs v = some r := by
      unfold bindRes at h
      split at h
      · exact absurd ⟨_, rfl⟩ ht
      · exact h
    obtain ⟨G', tl', q1, q2, q3, _⟩ := bind1_ok hs hTB hEE hp' hb
    have hnt : ∀ vs, r.1 ≠ .tup vs := by
      unfold bind1 at hb
      split at hb
      · cases hb; simp
      · cases hb; simp
      · cases hb; exact (demote_plain _).2
    exact ⟨G', tl', q1, ⟨q2, fun vs2 as2 e1 => absurd e1 (hnt _)⟩, q3⟩
end Go.Ab
