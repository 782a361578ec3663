import Derived.Test.YtdfcbophcfjakaaAb16
import Derived.Laws.Sem
set_option linter.unusedSimpArgs false
set_option linter.unusedVariables false
set_option linter.unusedSectionVars false
/- Calls: what a function hands out. -/
namespace Go.Ab
theorem VR.lst_at {G : Gh} {w : World} {k : LK} {cs : List V} {len cap b o : Nat} {arr : Array Value} {el : TypeId} {fz : Nat × Nat} (h : VR G w (.lst k cs len) (.slice (some ⟨b, o, none⟩) len cap)) (hb : w.heap[b]? = some (.cells arr el fz)) :
    ∀ j (hj : j < cs.length), VR G w (cs[j]'hj) (arr.getD (o + j) Go.undef) := by
  intro j hj
  cases h with
  | lst f hl hst hc hv =>
    have h1 := hc j hj
    have e : ((⟨b, o, none⟩ : Addr).add j) = ⟨b, o + j, none⟩ := by unfold Addr.add; split <;> simp_all
    rw [e] at h1
    unfold World.cell? at h1
    simp only [hb] at h1
    have h2 : arr[o + j]? = some (f j) := by simpa using h1
    rw [Array.getD_eq_getD_getElem?, h2]
    exact hv j hj
/-- The store of the callers, where the callee is over. -/
theorem Store.cut {G : Gh} {tl : Nat → Nat → Option (Nat × Nat)} {E E' base : Nat} {toks : List Nat} {objs : List AO} {w : World} (h : Store G tl E toks objs w) (hb : base ≤ objs.length) (hc : Clean base objs) : Store (G.cut base) noTl E' [] (objs.take base) w := by
  have hget : ∀ i x, (objs.take base)[i]? = some x → i < base ∧ objs[i]? = some x := by
    intro i x hx
    rcases Nat.lt_or_ge i base with q | q
    · rw [List.getElem?_take_of_lt q] at hx; exact ⟨q, hx⟩
    · rw [List.getElem?_eq_none (by simp; omega)] at hx; cases hx
  have hloc : ∀ i v, i < base → (G.cut base).loc i v = G.loc i v := fun i v hi => by simp only [Gh.cut]; rw [if_pos hi]
  refine ⟨?_, ?_, ?_, fun t n ht => by simp at ht, fun t n ht => by simp at ht, fun _ _ _ => rfl, ?_, fun t t' n n' b o o' ht => by simp at ht, fun i cs v t n b o o' _ ht => by simp at ht, h.lt, fun b hb => (by obtain ⟨_, _, _, h⟩ := hb; cases h), ⟨fun id es hi => ?_, fun id es hi v' hv => ?_, fun i i' es es' b hi hi' l1 l2 => ?_⟩⟩
  rotate_right 3
  · obtain ⟨h1, h2⟩ := hget _ _ hi
    obtain ⟨b, arr, cl, q1, q2, q3, q4⟩ := h.maps.row id es h2
    have hn : norefs base (es.flatMap fun p => [p.1, p.2]) = true := hc id (.map es) h1 h2
    rw [norefs_iff] at hn
    refine ⟨b, arr, cl, by rw [hloc _ _ h1]; exact q1, q2, ⟨q3.1, fun j hj hj' => ?_⟩, q4⟩
    obtain ⟨m1, m2⟩ := q3.2 j hj hj'
    have hm : es[j] ∈ es := List.getElem_mem hj
    exact ⟨m1.cut (hn _ (List.mem_flatMap.2 ⟨_, hm, by simp⟩)), m2.cut (hn _ (List.mem_flatMap.2 ⟨_, hm, by simp⟩))⟩
  · obtain ⟨h1, h2⟩ := hget _ _ hi
    rw [hloc _ _ h1]; exact h.maps.ver id es h2 v' hv
  · obtain ⟨h1, h2⟩ := hget _ _ hi
    obtain ⟨h3, h4⟩ := hget _ _ hi'
    rw [hloc _ _ h1] at l1; rw [hloc _ _ h3] at l2
    exact h.maps.inj i i' es es' b h2 h4 l1 l2
  · intro id cs ver hi
    obtain ⟨h1, h2⟩ := hget _ _ hi
    obtain ⟨b, o, arr, el, q1, q2, q3, q4⟩ := h.cellsR id cs ver h2
    exact ⟨b, o, arr, el, by rw [hloc _ _ h1]; exact q1, ⟨q2.at_, q2.fit⟩, fun j hj => (q3 j hj).cut (norefs_get (cs := cs) (hc id (.cells cs ver) h1 h2) j hj), q4⟩
  · intro id cs ver hi v' hv
    obtain ⟨h1, h2⟩ := hget _ _ hi
    rw [hloc _ _ h1]; exact h.vers id cs ver h2 v' hv
  · intro id hi v'
    rw [List.length_take, Nat.min_eq_left hb] at hi
    simp only [Gh.cut]; rw [if_neg (by omega)]
  · intro i i' c1 c2 v v' b o o' hi hi' l1 l2
    obtain ⟨h1, h2⟩ := hget _ _ hi
    obtain ⟨h3, h4⟩ := hget _ _ hi'
    rw [hloc _ _ h1] at l1; rw [hloc _ _ h3] at l2
    exact h.oo i i' c1 c2 v v' b o o' h2 h4 l1 l2
section
variable {P : Program} {A : Ann} {call : CallF} {f : FuncId} {n : Nat} {G0 : Gh} {w0 : World} {objs0 : List AO} {s : St} {a : Act} {w : World} {G : Gh} {tl : Nat → Nat → Option (Nat × Nat)}
theorem OwnedAt.of_cut {base : Nat} {objs : List AO} {id b : Nat} (hb : base ≤ objs.length) (h : OwnedAt (G.cut base) (objs.take base) id b) : id < base ∧ OwnedAt G objs id b := by
  obtain ⟨ver, o, hx, h2⟩ := h
  rcases Nat.lt_or_ge id base with q | q
  · simp only [Gh.cut] at h2; rw [if_pos q] at h2
    refine ⟨q, ver, o, ?_, h2⟩
    rcases hx with ⟨cs, h1⟩ | ⟨rfl, es, h1⟩
    · rw [List.getElem?_take_of_lt q] at h1; exact .inl ⟨cs, h1⟩
    · rw [List.getElem?_take_of_lt q] at h1; exact .inr ⟨rfl, es, h1⟩
  · rcases hx with ⟨cs, h1⟩ | ⟨rfl, es, h1⟩ <;> (rw [List.getElem?_eq_none (by simp; omega)] at h1; cases h1)
/-- One value that is handed out. -/
theorem out1_ok (hF : Fr n G0 w0 objs0 objs0.length s a w G tl) {fr fr' : Bool} {v v' : V} {c : Value} (hv : VR G w v c) (ht : TokOk tl w0.heap.size w v c) (h : out1 objs0.length s.toks s.objs fr v = some (v', fr')) :
    PartOk (G.cut objs0.length) (s.objs.take objs0.length) w0.heap.size w v' c ∧ (fr = false → isFresh v' = false ∧ fr' = false) ∧ (isFresh v' = true → fr' = false) := by
  have plain : ∀ u, isFresh u = false → (∀ k cs len, u = .lst k cs len → k = .frozen) → (∀ vs, u ≠ .tup vs) → VR (G.cut objs0.length) w u c → PartOk (G.cut objs0.length) (s.objs.take objs0.length) w0.heap.size w u c := by
    intro u h1 h2 h3 h4
    refine ⟨fun _ => ⟨h4, h2, h3⟩, ?_⟩
    rintro e th cs len rfl; cases h1
  unfold out1 at h
  split at h
  · rename_i t e cs len
    split at h
    case isFalse => cases h
    rename_i hn
    split at h
    · rename_i hq
      cases h
      refine ⟨⟨fun hx => (by cases hx), ?_⟩, fun hx => absurd hq.1 (by rw [hx]; simp), fun _ => rfl⟩
      rintro e1 th cs1 len1 he
      cases he
      obtain ⟨b, o, cap, arr, el, fz, t1, t2, t3, t4, t5⟩ := ht.1 t e cs len rfl
      obtain ⟨b2, o2, arr2, el2, q1, q2, q3, q4⟩ := hF.store.toksR t _ hq.2.1
      rw [q1] at t1; cases t1
      have e3 := q2.at_.symm.trans t3; injection e3 with e3; injection e3 with e4 e5 e6
      subst e4; subst e5; subst e6
      have hl : len ≤ cap := by rw [t2] at hv; cases hv with | lst f hl _ _ _ => exact hl
      have hcells := VR.lst_at (by rw [t2] at hv; exact hv) t3
      refine ⟨b, o, o, cap, arr2, el2, t2, fun _ => rfl, hl, q4, q2.at_, q2.fit, fun _ => t4, t5, fun x hx => q3 x (by rcases hx with hx | hx; cases hx; exact hx), ?_, fun j hj => (hcells j hj).cut (norefs_get hn j hj), fun _ => (hv.lk (k' := .fresh e false)).cut (by simpa [noref] using hn)⟩
      intro id hid
      exact hF.store.tokFree hq.2.1 q1 id (hid.of_cut hF.len).2
    · cases h
      exact ⟨plain _ rfl (by intro k cs len h; cases h; rfl) (by simp) ((hv.lk (k' := .frozen)).cut (by simpa [noref] using hn)), fun hx => ⟨rfl, hx⟩, fun hx => by cases hx⟩
  · rename_i k cs len _
    split at h <;> cases h
    rename_i hn
    exact ⟨plain _ rfl (by intro k cs len h; cases h; rfl) (by simp) ((hv.lk (k' := .frozen)).cut (by simpa [noref] using hn)), fun hx => ⟨rfl, hx⟩, fun hx => by cases hx⟩
  · rename_i id ver off len e
    split at h
    · rename_i hid
      cases h
      exact ⟨plain _ rfl (by intro k cs len h; cases h) (by simp) (hv.cut (by simpa [noref] using hid)), fun hx => ⟨rfl, hx⟩, fun hx => by cases hx⟩
    · rename_i hid
      split at h
      case h_2 => cases h
      rename_i cs hg
      split at h <;> cases h
      rename_i hq
      obtain ⟨hn, hfr, rfl, hlen⟩ := hq
      refine ⟨⟨fun hx => (by cases hx), ?_⟩, fun hx => absurd hfr (by rw [hx]; simp), fun _ => rfl⟩
      rintro e1 th cs1 len1 he
      cases he
      obtain ⟨b, o, cap, p, arr, el, fz, ex, hloc, hl, hb, hp, hs⟩ := hv.ref_inv
      obtain ⟨b2, o2, arr2, el2, q1, q2, q3, q4, q5, q6⟩ := obj_cell hF.store hg
      rw [q2] at hloc; cases hloc
      have e3 := q3.at_.symm.trans hb; injection e3 with e3; injection e3 with e4 e5 e6
      subst e4; subst e5; subst e6
      have hE : w0.heap.size ≤ b := by
        rcases hF.prov id b (.cells q1 q2) with q | ⟨v3, o3, r, r2⟩
        · exact q
        · rcases r with ⟨cs3, r1⟩ | ⟨_, es, r1⟩ <;> exact absurd (by rcases Nat.lt_or_ge id objs0.length with z | z; exact z; rw [List.getElem?_eq_none z] at r1; cases r1) hid
      refine ⟨b, o, p, cap, arr2, el2, ex, fun hc => hc.elim (fun h => (hp h).trans (Nat.add_zero _)) (fun h => by cases h), hl, hE, q3.at_, q3.fit, fun hc => hc.elim (fun h => hs h) (fun h => by cases h), hlen, fun x _ => q6 x, ?_, fun j hj => (q5 j hj).cut (norefs_get hn j hj), fun hx => by cases hx⟩
      intro id2 hid2
      obtain ⟨z, ver2, o3, r, r2⟩ := hid2.of_cut hF.len
      rcases r with ⟨cs2, r1⟩ | ⟨rfl, es, r1⟩
      · have := hF.store.oo id id2 _ _ _ _ b o o3 q1 r1 q2 r2
        omega
      · obtain ⟨b3, a3, c3, m1, m2, _⟩ := hF.store.maps.row id2 es r1
        rw [m1] at r2; cases r2
        have := q3.at_
        rw [m2] at this; cases this
  · cases h
  · rename_i h1 h2 h3 h4
    split at h <;> cases h
    rename_i hn
    have hf : isFresh v = false := by
      unfold isFresh
      split
      · exact (h2 _ _ _ rfl).elim
      · rfl
    exact ⟨plain _ hf (fun k cs len he => absurd he (h2 _ _ _)) (fun vs he => absurd he (h4 _)) (hv.cut hn), fun hx => ⟨hf, hx⟩, fun hx => by rw [hf] at hx; cases hx⟩
theorem outAll_ok (hF : Fr n G0 w0 objs0 objs0.length s a w G tl) : ∀ (vs : List V) (cs : List Value) (fr : Bool) (vs' : List V), cs.length = vs.length → (∀ j (h : j < vs.length), VR G w (vs[j]'h) (cs.getD j Go.undef) ∧ TokOk tl w0.heap.size w (vs[j]'h) (cs.getD j Go.undef)) →
    outAll objs0.length s.toks s.objs fr vs = some vs' → PartsOk (G.cut objs0.length) (s.objs.take objs0.length) w0.heap.size w vs' cs ∧ (fr = false → ∀ u ∈ vs', isFresh u = false) := by
  intro vs
  induction vs with
  | nil =>
    intro cs fr vs' hl _ h
    simp only [outAll] at h; cases h
    cases cs with
    | nil => exact ⟨trivial, fun _ u hu => by simp at hu⟩
    | cons c cs => simp at hl
  | cons v vs ih =>
    intro cs fr vs' hl hv h
    cases cs with
    | nil => simp at hl
    | cons c cs =>
      simp only [outAll] at h
      split at h
      case h_2 => cases h
      rename_i v1 fr1 h1
      cases h2 : outAll objs0.length s.toks s.objs fr1 vs with
      | none => rw [h2] at h; cases h
      | some us =>
        rw [h2] at h; cases h
        have hv0 := hv 0 (by simp)
        obtain ⟨p1, p2, p3⟩ := out1_ok hF (c := c) (by simpa using hv0.1) (by simpa using hv0.2) h1
        obtain ⟨i1, i2⟩ := ih cs fr1 us (by simpa using hl) (fun j hj => by have := hv (j + 1) (Nat.succ_lt_succ hj); rw [List.getElem_cons_succ, List.getD_cons_succ] at this; exact this) h2
        refine ⟨⟨p1, i1, fun hf => i2 (p3 hf)⟩, fun hf u hu => ?_⟩
        obtain ⟨q1, q2⟩ := p2 hf
        rcases List.mem_cons.1 hu with rfl | hu
        · exact q1
        · exact i2 q2 u hu
/-- The results, read at the end. -/
theorem results_run {bb : Nat} (hF : Fr n G0 w0 objs0 bb s a w G tl) (g : ResultVar → Sem Value) (g1 : ∀ t, g (.tmp t) = pure (a.tmps.getD t Go.undef)) (g2 : ∀ b t, g (.cell b t) = (do loadVar t (← asAddr (a.tmps.getD b Go.undef)))) : ∀ (rs : List ResultVar) (vs : List V), resVals P s rs = some vs →
    ∃ cs : List Value, (rs.mapM g).run P w = .ok cs w ∧ cs.length = vs.length ∧
      ∀ j (h : j < vs.length), VR G w (vs[j]'h) (cs.getD j Go.undef) ∧ TokOk tl w0.heap.size w (vs[j]'h) (cs.getD j Go.undef) := by
  intro rs
  induction rs with
  | nil => intro vs h; simp only [resVals] at h; cases h; exact ⟨[], by simp, rfl, fun j h => absurd h (by simp)⟩
  | cons r rs ih =>
    intro vs h
    simp only [resVals] at h
    split at h
    case h_2 => cases h
    rename_i v us h1 h2
    cases h
    obtain ⟨cs, c1, c2, c3⟩ := ih us h2
    have hr : ∃ c, (g r).run P w = .ok c w ∧ VR G w v c ∧ TokOk tl w0.heap.size w v c := by
      cases r with
      | tmp t =>
        simp only [resVal] at h1; cases h1
        exact ⟨_, by rw [g1]; rfl, (hF.env t).1, (hF.env t).2.1⟩
      | cell b t =>
        simp only [resVal] at h1
        split at h1
        case h_2 => cases h1
        rename_i id ver off hk
        split at h1
        case h_2 => cases h1
        rename_i cs' hg
        cases hgv : getV P t cs' off with
        | none => rw [hgv] at h1; cases h1
        | some u =>
          rw [hgv] at h1; cases h1
          have hx := (hF.env b).1
          rw [hk] at hx
          obtain ⟨b2, o', hloc, e⟩ := hx.ptr_inv
          obtain ⟨b3, o2, arr, el, q1, q2, q3, q4, q5, q6⟩ := obj_cell hF.store hg
          rw [q2] at hloc; cases hloc
          obtain ⟨c, l1, l2⟩ := getV_load (G := G) _ hgv q4 q5
          rw [add_mk] at l1
          exact ⟨c, by rw [g2]; simp [e, asAddr, l1], l2.demote, TokOk.of (demote_plain u).1⟩
    obtain ⟨c, r1, r2, r3⟩ := hr
    refine ⟨c :: cs, ?_, by simp [c2], fun j hj => ?_⟩
    · rw [List.mapM_cons, Sem.run_bind, r1, Result.andThen_ok, Sem.run_bind, c1, Result.andThen_ok]; rfl
    · cases j with
      | zero => exact ⟨r2, r3⟩
      | succ j =>
        rw [List.getElem_cons_succ, List.getD_cons_succ]
        exact c3 j (Nat.lt_of_succ_lt_succ hj)
theorem parts_plain {objs : List AO} {E : Nat} : ∀ (vs : List V) (cs : List Value), cs.length = vs.length → (∀ j (h : j < vs.length), VR G w (vs[j]'h) (cs.getD j Go.undef)) → PartsOk G objs E w (vs.map demote) cs := by
  have nf : ∀ v, isFresh (demote v) = false := by
    intro v; cases v <;> rfl
  intro vs
  induction vs with
  | nil => intro cs hl _; cases cs with | nil => trivial | cons c cs => simp at hl
  | cons v vs ih =>
    intro cs hl hv
    cases cs with
    | nil => simp at hl
    | cons c cs =>
      refine ⟨⟨fun _ => ⟨(hv 0 (by simp)).demote, (demote_plain v).1, (demote_plain v).2⟩, ?_⟩, ih cs (by simpa using hl) (fun j hj => by have := hv (j + 1) (Nat.succ_lt_succ hj); rw [List.getElem_cons_succ, List.getD_cons_succ] at this; exact this), fun hf => by rw [nf] at hf; cases hf⟩
      intro e th cs len he
      have := nf v; rw [he] at this; cases this
theorem pack_ok {objs : List AO} {E : Nat} {us : List V} {cs : List Value} (p1 : PartsOk G objs E w us cs) : ResultOk G objs E w (packV us) (if h : cs.toArray.size = 1 then cs.toArray[0] else .tuple cs.toArray) := by
  cases us with
  | nil =>
    cases cs with
    | cons c cs => exact p1.elim
    | nil => exact ⟨_, by simp, p1⟩
  | cons u us =>
    cases us with
    | nil =>
      cases cs with
      | nil => exact p1.elim
      | cons c cs =>
        cases cs with
        | cons d cs => exact p1.2.1.elim
        | nil =>
          have hp := p1.1
          have : ∀ vs, u ≠ .tup vs := by
            rintro vs rfl
            exact absurd rfl ((hp.1 rfl).2.2 vs)
          show ResultOk _ _ _ _ u _
          unfold ResultOk
          split
          · exact absurd rfl (this _)
          · simpa using hp
    | cons u2 us =>
      cases cs with
      | nil => exact p1.elim
      | cons c cs =>
        cases cs with
        | nil => exact p1.2.1.elim
        | cons d cs =>
          refine ⟨(c :: d :: cs).toArray, ?_, p1⟩
          rw [dif_neg (by simp)]
/-- The ghost without what is stable in new blocks. -/
def Gh.old (G : Gh) (E : Nat) : Gh := ⟨G.loc, fun b x => G.st b x ∧ b < E⟩
theorem VR.scal {G G' : Gh} {w : World} {v : V} {c : Value} (hs : scalar v = true) (h : VR G w v c) : VR G' w v c := by
  cases h <;> first | (simp [scalar] at hs; done) | constructor
theorem scal_get {cs : List V} (h : cs.all scalar = true) (j : Nat) (hj : j < cs.length) : scalar (cs[j]'hj) = true := List.all_eq_true.1 h _ (List.getElem_mem hj)
theorem Store.older {G : Gh} {E E' : Nat} {objs : List AO} {w : World} (h : Store G noTl E [] objs w) (hs : scalarObjs objs = true) : Store (G.old E') noTl E [] objs w := by
  refine ⟨fun id cs ver hi => ?_, h.vers, h.news, fun t n ht => by simp at ht, fun t n ht => by simp at ht, fun _ _ _ => rfl, h.oo, fun t t' n n' b o o' ht => by simp at ht, fun i cs v t n b o o' _ ht => by simp at ht, fun b x hx => h.lt b x hx.1, fun b hb => (by obtain ⟨_, _, _, h⟩ := hb; cases h), ⟨fun id es hi => absurd (List.all_eq_true.1 hs (.map es) (List.mem_of_getElem? hi)) (by simp), fun id es hi => absurd (List.all_eq_true.1 hs (.map es) (List.mem_of_getElem? hi)) (by simp), fun i i' es es' b hi => absurd (List.all_eq_true.1 hs (.map es) (List.mem_of_getElem? hi)) (by simp)⟩⟩
  obtain ⟨b, o, arr, el, q1, q2, q3, q4⟩ := h.cellsR id cs ver hi
  have hc : cs.all scalar = true := List.all_eq_true.1 hs (.cells cs ver) (List.mem_of_getElem? hi)
  exact ⟨b, o, arr, el, q1, ⟨q2.at_, q2.fit⟩, fun j hj => (q3 j hj).scal (scal_get hc j hj), fun x hx => q4 x hx.1⟩
theorem isFresh_thaw {u : V} : isFresh (thaw u) = isFresh u := by
  cases u <;> try rfl
  rename_i k cs len
  cases k <;> rfl
theorem part_thaw {G : Gh} {objs : List AO} {E : Nat} {w : World} {u : V} {c : Value} (h : PartOk G objs E w u c) (ht : thawable u = true) : PartOk (G.old E) objs E w (thaw u) c := by
  by_cases hf : isFresh u = true
  · obtain ⟨e, th, cs, len, rfl⟩ : ∃ e th cs len, u = .lst (.fresh e th) cs len := by
      unfold isFresh at hf; split at hf
      · exact ⟨_, _, _, _, rfl⟩
      · cases hf
    have hc : cs.all scalar = true := ht
    refine ⟨(fun hf => by cases hf), fun e' th' cs' len' he => ?_⟩
    cases he
    obtain ⟨b, o, p, cap, arr, el, e1, e2, e3, e4, e5, e6, e7, e8, e9, e10, e11, e12⟩ := h.2 e th cs len rfl
    refine ⟨b, o, p, cap, arr, el, e1, fun q => e2 (q.elim .inl (fun q => by cases q)), e3, e4, e5, e6, fun q => e7 (q.elim .inl (fun q => by cases q)), e8, fun x _ hx => by have := hx.2; omega, e10, fun j hj => (e11 j hj).scal (scal_get hc j hj), fun q => by cases q⟩
  · have hf' : isFresh u = false := by simpa using hf
    have hs : scalar u = true := by
      unfold thawable at ht
      split at ht
      · cases hf'
      · exact ht
    have hu : thaw u = u := by
      unfold thaw; split
      · cases hf'
      · rfl
    rw [hu]
    exact ⟨fun _ => ⟨(h.1 hf').1.scal hs, (h.1 hf').2⟩, fun e th cs len he => by subst he; cases hf'⟩
theorem parts_thaw {G : Gh} {objs : List AO} {E : Nat} {w : World} : ∀ {vs : List V} {cs : List Value} (_ : PartsOk G objs E w vs cs) (_ : vs.all thawable = true), PartsOk (G.old E) objs E w (vs.map thaw) cs
  | [], [], _, _ => trivial
  | v :: vs, c :: cs, h, ht => by
    simp only [List.all_cons, Bool.and_eq_true] at ht
    refine ⟨part_thaw h.1 ht.1, parts_thaw h.2.1 ht.2, fun hf u hu => ?_⟩
    obtain ⟨u', hu', rfl⟩ := List.mem_map.1 hu
    rw [isFresh_thaw]
    exact h.2.2 (by rw [isFresh_thaw] at hf; exact hf) u' hu'
  | [], _ :: _, h, _ => h.elim
  | _ :: _, [], h, _ => h.elim
/-- The ghost without the objects from 'base' on, whose cells stand still. -/
def Gh.still (G : Gh) (objs : List AO) (base : Nat) : Gh := ⟨(G.cut base).loc, fun b x => G.st b x ∨ ∃ id cs ver o, base ≤ id ∧ objs[id]? = some (.cells cs ver) ∧ G.loc id ver = some (b, o)⟩
theorem OwnedAt.of_still {base : Nat} {objs objs2 : List AO} {id b : Nat} (hb : base ≤ objs.length) (h : OwnedAt (G.still objs2 base) (objs.take base) id b) : id < base ∧ OwnedAt G objs id b := OwnedAt.of_cut hb h
theorem still_st {base : Nat} {toks : List Nat} {E : Nat} {objs : List AO} (h : Store G tl E toks objs w) {b x : Nat} (hx : (G.still objs base).st b x) {id : Nat} (hid : id < base) : (∀ cs ver o, objs[id]? = some (.cells cs ver) → G.loc id ver = some (b, o) → False) ∧ (∀ es, objs[id]? = some (.map es) → G.loc id 0 = some (b, 0) → False) := by
  rcases hx with hx | ⟨i, c1, v1, o1, z1, z2, z3⟩
  · refine ⟨fun cs ver o h1 h2 => ?_, fun es h1 h2 => ?_⟩
    · obtain ⟨b2, o2, a2, el, q1, q2, q3, q4⟩ := h.cellsR id cs ver h1
      rw [q1] at h2; cases h2
      exact q4 x hx
    · obtain ⟨b2, a2, cl, q1, q2, q3, q4⟩ := h.maps.row id es h1
      rw [q1] at h2; cases h2
      exact q4 x hx
  · refine ⟨fun cs ver o h1 h2 => ?_, fun es h1 h2 => ?_⟩
    · have := h.oo id i _ _ _ _ _ _ _ h1 z2 h2 z3; omega
    · obtain ⟨b2, a2, cl, q1, q2, q3, q4⟩ := h.maps.row id es h1
      rw [q1] at h2; cases h2
      obtain ⟨b3, o3, a3, el, m1, m2, _⟩ := h.cellsR i c1 v1 z2
      rw [m1] at z3; cases z3
      have := m2.at_
      rw [q2] at this; cases this
theorem Store.still {base : Nat} {toks : List Nat} {E E' : Nat} {objs : List AO} (h : Store G tl E toks objs w) (hb : base ≤ objs.length) (hc : Clean base objs) : Store (G.still objs base) noTl E' [] (objs.take base) w := by
  have hC := h.cut (E' := E') hb hc
  have hgle : GLe (G.cut base) (G.still objs base) := ⟨fun _ _ _ h => h, fun _ _ h => .inl h⟩
  have hget : ∀ i x, (objs.take base)[i]? = some x → i < base ∧ objs[i]? = some x := by
    intro i x hx
    rcases Nat.lt_or_ge i base with q | q
    · rw [List.getElem?_take_of_lt q] at hx; exact ⟨q, hx⟩
    · rw [List.getElem?_eq_none (by simp; omega)] at hx; cases hx
  have hloc : ∀ i v, i < base → (G.cut base).loc i v = G.loc i v := fun i v hi => by simp only [Gh.cut]; rw [if_pos hi]
  refine ⟨fun id cs ver hi => ?_, hC.vers, hC.news, fun t n ht => by simp at ht, hC.tnew, hC.tnews, hC.oo, hC.tt, fun i cs v t n b o o' _ ht => by simp at ht, fun b x hx => ?_, hC.tbl, ⟨fun id es hi => ?_, hC.maps.ver, hC.maps.inj⟩⟩
  · obtain ⟨b, o, arr, el, q1, q2, q3, q4⟩ := hC.cellsR id cs ver hi
    obtain ⟨h1, h2⟩ := hget _ _ hi
    exact ⟨b, o, arr, el, q1, ⟨q2.at_, q2.fit⟩, fun j hj => (q3 j hj).mono hgle (WLe.refl _ w), fun x hx => (still_st h hx h1).1 cs ver o h2 (by rw [← hloc _ _ h1]; exact q1)⟩
  · rcases hx with hx | ⟨i, c1, v1, o1, z1, z2, z3⟩
    · exact h.lt b x hx
    · obtain ⟨b3, o3, a3, el, m1, m2, _⟩ := h.cellsR i c1 v1 z2
      rw [m1] at z3; cases z3
      exact lt_of_get m2.at_
  · obtain ⟨b, arr, cl, q1, q2, q3, q4⟩ := hC.maps.row id es hi
    obtain ⟨h1, h2⟩ := hget _ _ hi
    exact ⟨b, arr, cl, q1, q2, q3.mono hgle (WLe.refl _ w), fun x hx => (still_st h hx h1).2 es h2 (by rw [← hloc _ _ h1]; exact q1)⟩
theorem stillL_get {g : V → Option V} : ∀ {cs us : List V}, stillL g cs = some us → us.length = cs.length ∧ ∀ j (h : j < cs.length) (h' : j < us.length), g (cs[j]'h) = some (us[j]'h')
  | [], us, h => by cases h; exact ⟨rfl, fun j h => absurd h (by simp)⟩
  | v :: vs, us, h => by
    unfold stillL at h
    split at h
    case h_2 => cases h
    rename_i a b h1 h2
    cases h
    obtain ⟨g1, g2⟩ := stillL_get h2
    refine ⟨by simp [g1], fun j h h' => ?_⟩
    cases j with
    | zero => exact h1
    | succ j => exact g2 j (by simpa using h) (by simpa using h')
theorem VR.still {base : Nat} {toks : List Nat} {E : Nat} {objs : List AO} (hs : Store G tl E toks objs w) : ∀ (n : Nat) (v u : V) (c : Value), VR G w v c → stillV base objs n v = some u → VR (G.still objs base) w u c ∧ (∀ k cs len, u = .lst k cs len → k = .frozen) ∧ ∀ vs, u ≠ .tup vs
  | 0, _, _, _, _, h => by cases h
  | n + 1, v, u, c, hv, h => by
    have ih := VR.still (base := base) hs n
    have hgle : GLe (G.cut base) (G.still objs base) := ⟨fun _ _ _ h => h, fun _ _ h => .inl h⟩
    have hcut : Ab.noref base v = true → VR (G.still objs base) w v c := fun hn => (hv.cut hn).mono hgle (WLe.refl _ w)
    unfold stillV at h
    split at h
    · rename_i k cs len
      obtain ⟨us, hu, h⟩ := Option.map_eq_some_iff.1 h
      subst h
      obtain ⟨g1, g2⟩ := stillL_get hu
      refine ⟨?_, by intro k cs len h; cases h; rfl, by simp⟩
      cases hv with
      | lst f hl hst hc hv =>
        exact .lst f hl (fun j hj => .inl (hst j (by omega))) (fun j hj => hc j (by omega)) fun j hj => (ih _ _ _ (hv j (by omega)) (g2 j (by omega) hj)).1
    · rename_i cs
      obtain ⟨us, hu, h⟩ := Option.map_eq_some_iff.1 h
      subst h
      obtain ⟨g1, g2⟩ := stillL_get hu
      refine ⟨?_, by simp, by simp⟩
      cases hv with
      | agg h hv => exact .agg (by omega) fun j hj => (ih _ _ _ (hv j (by omega)) (g2 j (by omega) hj)).1
    · rename_i id ver off len e
      split at h
      · rename_i hid
        cases h
        exact ⟨hcut (by simpa [Ab.noref] using hid), by simp, by simp⟩
      rename_i hid
      split at h
      case h_2 => cases h
      rename_i cs hg
      split at h
      case isFalse => cases h
      rename_i hfit
      obtain ⟨us, hu, h⟩ := Option.map_eq_some_iff.1 h
      subst h
      obtain ⟨g1, g2⟩ := stillL_get hu
      refine ⟨?_, by intro k cs len h; cases h; rfl, by simp⟩
      obtain ⟨b, o, cap, p, arr, el, fz, ex, hloc, hl, hb, hp, hsz⟩ := hv.ref_inv
      obtain ⟨b2, o2, arr2, el2, q1, q2, q3, q4, q5, q6⟩ := obj_cell hs hg
      rw [q2] at hloc; cases hloc
      have e3 := q3.at_.symm.trans hb; injection e3 with e3; injection e3 with e4 e5 e6
      subst e4; subst e5; subst e6
      rw [ex]
      have hul : us.length = len * e := by rw [g1, List.length_take, List.length_drop]; omega
      have hcap : ∀ j, j < us.length → 0 < cap := fun j hj => by
        rcases Nat.eq_zero_or_pos cap with z | z
        · subst z
          obtain rfl : len = 0 := by omega
          rw [Nat.zero_mul] at hul; omega
        · exact z
      have hle : len * e ≤ cap * e := Nat.mul_le_mul_right _ hl
      refine .lst (fun j => arr2.getD (o + off + j) Go.undef) hl (fun j hj => .inr ⟨id, cs, ver, o, by omega, q1, q2⟩) (fun j hj => ?_) (fun j hj => ?_)
      · rw [hp (hcap j hj), add_mk]
        unfold World.cell?
        simp only [q3.at_]
        have := hsz (hcap j hj)
        have hlt : o + off + j < arr2.size := by omega
        simp [Array.getD, hlt]
      · have hj2 : j < ((cs.drop off).take (len * e)).length := by rw [← g1]; exact hj
        have hg2 := g2 j hj2 hj
        rw [List.getElem_take, List.getElem_drop] at hg2
        have hv2 := q5 (off + j) (by omega)
        rw [← Nat.add_assoc] at hv2
        exact (ih _ _ _ hv2 hg2).1
    · rename_i id ver off
      split at h <;> cases h
      rename_i hid
      exact ⟨hcut (by simpa [Ab.noref] using hid), by simp, by simp⟩
    · split at h <;> cases h
      rename_i hsc
      refine ⟨hcut ?_, ?_, ?_⟩
      · cases v <;> simp_all [scalar, Ab.noref]
      · rintro k cs len rfl; cases hsc
      · rintro vs rfl; cases hsc
theorem still_parts {base : Nat} {toks : List Nat} {E E2 : Nat} {objs objs2 : List AO} (hs : Store G tl E toks objs w) : ∀ (vs : List V) (cs : List Value) (us : List V), cs.length = vs.length → (∀ j (h : j < vs.length), VR G w (vs[j]'h) (cs.getD j Go.undef)) → stillL (stillV base objs 9) vs = some us → PartsOk (G.still objs base) objs2 E2 w us cs := by
  intro vs
  induction vs with
  | nil => intro cs us hl _ h; cases h; cases cs with | nil => trivial | cons c cs => simp at hl
  | cons v vs ih =>
    intro cs us hl hv h
    cases cs with
    | nil => simp at hl
    | cons c cs =>
      unfold stillL at h
      split at h
      case h_2 => cases h
      rename_i a b h1 h2
      cases h
      obtain ⟨q1, q2, q3⟩ := VR.still hs 9 v a c (hv 0 (by simp)) h1
      have nf : isFresh a = false := by
        unfold isFresh; split
        · rename_i e th cs len; exact absurd (q2 _ _ _ rfl) (by simp)
        · rfl
      refine ⟨⟨fun _ => ⟨q1, q2, q3⟩, ?_⟩, ih cs b (by simpa using hl) (fun j hj => by have := hv (j + 1) (Nat.succ_lt_succ hj); rw [List.getElem_cons_succ, List.getD_cons_succ] at this; exact this) h2, fun hf => by rw [nf] at hf; cases hf⟩
      rintro e th cs len rfl; cases nf
theorem finish_ok {fn : Func} {v : V} {r : Option (List AO × Nat)} {bb : Nat} (hF : Fr n G0 w0 objs0 bb s a w G tl) (hbb : bb = baseOf A f objs0.length) (hs0 : Store G0 noTl w0.heap.size [] objs0 w0) (h : finish P A f fn objs0 s = some (v, r)) :
    ∃ c G', (results fn a.tmps).run P w = .ok c w ∧ Back G0 objs0 w0 v ((r.map (·.1)).getD objs0) c w G' := by
  unfold finish at h
  split at h
  · cases h
  rename_i vs hvs
  obtain ⟨cs, c1, c2, c3⟩ := results_run hF (fun | .tmp t => pure (a.tmps.getD t Go.undef) | .cell b t => do loadVar t (← asAddr (a.tmps.getD b Go.undef))) (fun _ => rfl) (fun _ _ => rfl) _ _ hvs
  have hrun : (results fn a.tmps).run P w = .ok (if h : cs.toArray.size = 1 then cs.toArray[0] else .tuple cs.toArray) w := by
    unfold results
    rw [Array.mapM_eq_mapM_toList]
    rw [Sem.run_bind, map_eq_pure_bind, Sem.run_bind]
    erw [c1]
    rfl
  split at h
  · cases h
    exact ⟨_, G, hrun, hF.gle, hF.wle, hF.store.enter, hF.fr, hF.prov, hF.stn, pack_ok (parts_plain vs cs c2 fun j hj => (c3 j hj).1)⟩
  rename_i hkeep
  obtain rfl : bb = objs0.length := by rw [hbb, baseOf, if_neg hkeep]
  have hobj : ((if s.low < objs0.length then some (s.objs.take objs0.length, s.low) else none : Option (List AO × Nat)).map (·.1)).getD objs0 = s.objs.take objs0.length := by
    split
    · rfl
    · rename_i hl
      show objs0 = _
      refine List.ext_getElem? fun i => ?_
      rcases Nat.lt_or_ge i objs0.length with q | q
      · rw [List.getElem?_take_of_lt q, hF.low i (by omega) q]
      · rw [List.getElem?_eq_none q, List.getElem?_eq_none (by simp; omega)]
  have hgl : ∀ id ver p, G0.loc id ver = some p → (G.cut objs0.length).loc id ver = some p := fun id ver p hp => by
    simp only [Gh.cut]
    rw [if_pos (by
      rcases Nat.lt_or_ge id objs0.length with q | q
      · exact q
      · rw [hs0.news id q ver] at hp; cases hp)]
    exact hF.gle.loc id ver p hp
  split at h
  · obtain ⟨us, hus, h⟩ := Option.map_eq_some_iff.1 h
    cases h
    refine ⟨_, G.still s.objs objs0.length, hrun, ?_⟩
    rw [hobj]
    refine ⟨⟨hgl, fun b o ho => .inl (hF.gle.st b o ho)⟩, hF.wle, hF.store.still hF.len hF.clean, hF.fr, fun id b hb => hF.prov id b (hb.of_still hF.len).2, fun b x hb hx => ?_, pack_ok (still_parts hF.store vs cs us c2 (fun j hj => (c3 j hj).1) hus)⟩
    rcases hx with hx | ⟨id, cs2, ver, o, z1, z2, z3⟩
    · exact hF.stn b x hb hx
    · rcases hF.prov id b (.cells z2 z3) with q | ⟨v3, o3, r, r2⟩
      · omega
      · rcases r with ⟨cs3, r1⟩ | ⟨_, es, r1⟩ <;> (rw [List.getElem?_eq_none z1] at r1; cases r1)
  split at h
  case h_2 => cases h
  rename_i us hus
  cases h
  obtain ⟨p1, _⟩ := outAll_ok hF vs cs true us c2 c3 hus
  by_cases hthaw : A.thaw f = true ∧ scalarObjs (s.objs.take objs0.length) = true ∧ us.all thawable = true
  · obtain ⟨t1, t2, t3⟩ := hthaw
    have e : thawAll (A.thaw f) (s.objs.take objs0.length) us = us.map thaw := by unfold thawAll; rw [if_pos t1, if_pos ⟨t2, t3⟩]
    refine ⟨_, (G.cut objs0.length).old w0.heap.size, hrun, ?_⟩
    rw [hobj, e]
    exact ⟨⟨hgl, fun b o ho => ⟨hF.gle.st b o ho, hs0.lt b o ho⟩⟩, hF.wle, (hF.store.cut hF.len hF.clean).older t2, hF.fr, fun id b hb => hF.prov id b (OwnedAt.of_cut (b := b) hF.len hb).2, fun b x hb hx => hF.stn b x hb hx.1, pack_ok (parts_thaw p1 t3)⟩
  have e : thawAll (A.thaw f) (s.objs.take objs0.length) us = us := by
    unfold thawAll
    split
    · rename_i t1
      rw [if_neg (fun q => hthaw ⟨t1, q⟩)]
    · rfl
  refine ⟨_, G.cut objs0.length, hrun, ?_⟩
  rw [hobj, e]
  refine ⟨⟨fun id ver p hp => ?_, fun b o ho => hF.gle.st b o ho⟩, hF.wle, hF.store.cut hF.len hF.clean, hF.fr, fun id b hb => hF.prov id b (hb.of_cut hF.len).2, fun b x hb hx => hF.stn b x hb hx, pack_ok p1⟩
  simp only [Gh.cut]
  rw [if_pos (by
    rcases Nat.lt_or_ge id objs0.length with q | q
    · exact q
    · rw [hs0.news id q ver] at hp; cases hp)]
  exact hF.gle.loc id ver p hp
end
theorem clean_base {A : Ann} {f : FuncId} {objs : List AO} (h : Clean objs.length objs) : Clean (baseOf A f objs.length) objs := by
  unfold baseOf
  split
  · intro id cs ver hid; omega
  · exact h
theorem baseOf_le {A : Ann} {f : FuncId} {n : Nat} : baseOf A f n ≤ n := by unfold baseOf; split <;> omega
theorem LowOk.trans {base l l' l'' : Nat} {o o' o'' : List AO} (h : LowOk base o l o' l') (k : LowOk base o' l' o'' l'') : LowOk base o l o'' l'' :=
  ⟨Nat.le_trans h.len k.len, Nat.le_trans k.le h.le, fun id h1 h2 => (k.same id h1 (Nat.lt_of_lt_of_le h2 h.len)).trans (h.same id (Nat.lt_of_lt_of_le h1 k.le) h2), fun hb hc => k.clean (Nat.le_trans hb h.len) (h.clean hb hc)⟩
section
variable {P : Program} {A : Ann} {call : CallF} {f : FuncId} {base : Nat}
theorem step_low {ops : Array Oper} {i : Nat} {s s' : St} (hc : CallOk P call) (h : stepOp P A call f base ops i s = some s') : LowOk base s.objs s.low s'.objs s'.low := by
  unfold stepOp at h
  split at h
  · cases h
  rename_i o _
  cases hr : opR P A call f base ops o s with
  | none => rw [hr] at h; cases h
  | some r =>
    rw [hr] at h; cases h
    show LowOk base s.objs s.low r.2.2.1 r.2.2.2
    unfold opR at hr
    split at hr
    · exact op_low hc hr
    · split at hr
      case h_3 => cases hr
      case h_2 => cases hr; exact LowOk.refl ..
      split at hr
      · exact op_low hc hr
      · cases hr; exact LowOk.refl ..
theorem ops_low {ops : Array Oper} (hc : CallOk P call) : ∀ (l : List Nat) (s s' : St), evalOps P A call f base ops l s = some s' → LowOk base s.objs s.low s'.objs s'.low := by
  intro l
  induction l with
  | nil => intro s s' h; simp only [evalOps] at h; cases h; exact LowOk.refl ..
  | cons i l ih =>
    intro s s' h
    simp only [evalOps] at h
    cases h1 : stepOp P A call f base ops i s with
    | none => rw [h1] at h; cases h
    | some s1 => rw [h1] at h; exact (step_low hc h1).trans (ih s1 s' h)
theorem evalC_low (hc : CallOk P call) : ∀ (fuel : Nat) (c : Code) (s s' : St) (e : Ex), evalC P A call f base fuel c s = some (e, s') → LowOk base s.objs s.low s'.objs s'.low := by
  intro fuel
  induction fuel with
  | zero => intro c s s' e h; simp only [evalC] at h; cases h
  | succ fuel ih =>
    intro c s s' e h
    cases c with
    | skip => simp only [evalC] at h; cases h; exact LowOk.refl ..
    | exit id => simp only [evalC] at h; cases h; exact LowOk.refl ..
    | ret => simp only [evalC] at h; cases h; exact LowOk.refl ..
    | region id ops draw =>
      simp only [evalC] at h
      cases ho : evalOps P A call f base ops (List.range ops.size) s with
      | none => rw [ho] at h; cases h
      | some s1 => rw [ho] at h; cases h; exact ops_low hc _ _ _ ho
    | seq x y =>
      simp only [evalC] at h
      split at h
      · rename_i s1 h1; exact (ih _ _ _ _ h1).trans (ih _ _ _ _ h)
      · exact ih _ _ _ _ h
    | cond c x y =>
      simp only [evalC] at h
      split at h
      · exact ih _ _ _ _ h
      · cases h
    | block id x =>
      simp only [evalC] at h
      split at h
      · rename_i i s1 h1
        split at h <;> (cases h; exact ih _ _ _ _ h1)
      · exact ih _ _ _ _ h
    | loop x =>
      simp only [evalC] at h
      split at h
      · rename_i s1 h1; exact (ih _ _ _ _ h1).trans (ih _ _ _ _ h)
      · exact ih _ _ _ _ h
    | _ => simp only [evalC] at h; cases h
end
/-- What is asked of a program: slots in bounds; no name that the machine keeps for itself. -/
structure Fit (P : Program) : Prop where
  mixed : P.follows .mixedOrders = true
  code : ∀ (f : FuncId) (fn : Func) (c : Code), P.funcs[f]? = some fn → fn.body = some c → codeOk fn.ntmps c = true ∧ (fn.name == "runtime.NumGoroutine") = false
/-- What is asked of the functions without code. -/
def XOk (P : Program) (X : FuncId → Option (List V → List AO → Option V)) : Prop := ∀ f fn g args objs v, P.funcs[f]? = some fn → fn.body = none → X f = some g → g args objs = some v →
  ∀ (G : Gh) (w : World) (cargs : Array Value), Store G noTl w.heap.size [] objs w → AR G w args cargs.toList → Entered P f cargs w (fun c w' => ∃ G', Back G objs w v objs c w' G')
theorem callA_ok {P : Program} {A : Ann} {X : FuncId → Option (List V → List AO → Option V)} (hP : Fit P) (hX : XOk P X) : ∀ n, CallOk P (callA P A X n) := by
  intro n
  induction n with
  | zero => intro f args objs v r h; simp only [callA] at h; cases h
  | succ n ih =>
    intro f args objs v r h
    simp only [callA] at h
    split at h
    · cases h
    rename_i fn hfn
    split at h
    · rename_i hb
      split at h
      case h_2 => cases h
      rename_i g hg
      cases hgv : g args objs with
      | none => rw [hgv] at h; cases h
      | some u =>
        rw [hgv] at h; cases h
        exact ⟨fun _ _ he => (by cases he), fun G w cargs hs ha => hX f fn g args objs _ hfn hb hg hgv G w cargs hs ha⟩
    · rename_i c hb
      split at h
      · cases h
      rename_i hdk
      have hdk : drawsOk A f c = true := by simpa using hdk
      obtain ⟨hok, hname⟩ := hP.code f fn c hfn hb
      have hentry : ∀ (G : Gh) (w : World) (cargs : Array Value), Store G noTl w.heap.size [] objs w → AR G w args cargs.toList →
          In fn.ntmps G w objs (baseOf A f objs.length) ⟨entryEnv args, [], objs, objs.length⟩ { tmps := cargs ++ Array.replicate (fn.ntmps - cargs.size) Go.undef, defers := [] } w := by
        intro G w cargs hs ha
        refine ⟨G, noTl, fun t => ?_, Marks.nil _ _, by simp; omega, hs, GLe.refl G, WLe.refl G w, fun _ _ _ => rfl, fun _ _ h => .inr h, fun _ _ _ h => h, Nat.le_refl _, fun _ _ _ => rfl, clean_base hs.clean, baseOf_le, fun id ver h => hs.news id h ver⟩
        obtain ⟨g1, g2, g3⟩ := ha.get t
        have e : (cargs ++ Array.replicate (fn.ntmps - cargs.size) Go.undef).getD t Go.undef = cargs.toList.getD t Go.undef := by
          rw [Array.getD_eq_getD_getElem?, List.getD_eq_getElem?_getD, Array.getElem?_toList]
          rcases Nat.lt_or_ge t cargs.size with q | q
          · rw [Array.getElem?_append_left q]
          · rw [Array.getElem?_append_right q, Array.getElem?_eq_none q, Array.getElem?_replicate]
            split <;> rfl
        show VR G w (args.getD t .undef) _ ∧ TokT noTl w.heap.size w (args.getD t .undef) _
        rw [e]
        exact ⟨g1, TokT.of g2 g3⟩
      have hcf : ∀ cargs w, (callFunc f cargs).run P w = .ok (.enter f cargs) w := by
        intro cargs w
        have h1 : (fn.name = "runtime.NumGoroutine") = False := by simpa using hname
        simp [callFunc, hfn, h1, hb]
      have main : ∀ (e : Ex) (s : St), e = .norm ∨ e = .ret → evalC P A (callA P A X n) f (baseOf A f objs.length) n c ⟨entryEnv args, [], objs, objs.length⟩ = some (e, s) → finish P A f fn objs s = some (v, r) →
          (∀ objs' low', r = some (objs', low') → objs.length ≤ objs'.length ∧ ∀ id, id < low' → id < objs.length → objs'[id]? = objs[id]?) ∧
          ∀ (G : Gh) (w : World) (cargs : Array Value), Store G noTl w.heap.size [] objs w → AR G w args cargs.toList → Entered P f cargs w (fun c w' => ∃ G', Back G objs w v ((r.map (·.1)).getD objs) c w' G') := by
        intro e s heo hev hfin
        refine ⟨?_, fun G w cargs hs ha => .inl ⟨hcf cargs w, calls_of_marks hfn hb heo (fun Q hQ => evalC_ok hP.mixed ih n c _ _ w e s _ hok hdk hev (hentry G w cargs hs ha) hQ) fun a' w' hF' => ?_⟩⟩
        · -- plain facts
          unfold finish at hfin
          split at hfin
          · cases hfin
          intro objs' low' he
          have hl := evalC_low ih n c _ _ _ hev
          have hlen : objs.length ≤ s.objs.length := hl.len
          split at hfin
          · cases hfin; cases he
            exact ⟨hlen, fun id h1 h2 => hl.same id h1 h2⟩
          split at hfin
          · obtain ⟨us, _, hfin⟩ := Option.map_eq_some_iff.1 hfin
            cases hfin
            split at he
            · cases he
              exact ⟨by rw [List.length_take, Nat.min_eq_left hlen]; exact Nat.le_refl _, fun id h1 h2 => by rw [List.getElem?_take_of_lt h2]; exact hl.same id h1 h2⟩
            · cases he
          split at hfin
          case h_2 => cases hfin
          cases hfin
          split at he
          · cases he
            exact ⟨by rw [List.length_take, Nat.min_eq_left hlen]; exact Nat.le_refl _, fun id h1 h2 => by rw [List.getElem?_take_of_lt h2]; exact hl.same id h1 h2⟩
          · cases he
        · obtain ⟨G', tl', hF'⟩ := hF'
          obtain ⟨bs, b1, b2, b3⟩ := hF'.dfr
          obtain ⟨cv, G2, q1, q2⟩ := finish_ok (P := P) (A := A) (f := f) (fn := fn) (hF'.shut bs b2 b3) rfl hs hfin
          exact ⟨bs, b1, b2, fun b hb => (b3 b hb).2, cv, q1, G2, q2⟩
      split at h
      · rename_i s hs; exact main _ s (.inl rfl) hs h
      · rename_i s hs; exact main _ s (.inr rfl) hs h
      · cases h
end Go.Ab
