import Derived.Test.YtdfcbophcfjakaaAb13
set_option linter.unusedSimpArgs false
set_option linter.unusedVariables false
set_option linter.unusedSectionVars false
/- One operation in a frame. -/
namespace Go.Ab
/-! plain facts on objects -/
theorem norefs_iff {b : Nat} : ∀ {cs : List V}, norefs b cs = true ↔ ∀ v ∈ cs, noref b v = true
  | [] => by simp [norefs]
  | v :: vs => by simp [norefs, norefs_iff (cs := vs)]
def aoVals : AO → List V
  | .cells cs _ => cs
  | .map es => es.flatMap fun p => [p.1, p.2]
def Clean (base : Nat) (objs : List AO) : Prop := ∀ (id : Nat) (x : AO), id < base → objs[id]? = some x → norefs base (aoVals x) = true
structure LowOk (base : Nat) (objs : List AO) (low : Nat) (objs' : List AO) (low' : Nat) : Prop where
  len : objs.length ≤ objs'.length
  le : low' ≤ low
  same : ∀ id, id < low' → id < objs.length → objs'[id]? = objs[id]?
  clean : base ≤ objs.length → Clean base objs → Clean base objs'
theorem LowOk.refl (base : Nat) (objs : List AO) (low : Nat) : LowOk base objs low objs low := ⟨Nat.le_refl _, Nat.le_refl _, fun _ _ _ => rfl, fun _ h => h⟩
theorem LowOk.ext (base : Nat) (objs l : List AO) (low : Nat) : LowOk base objs low (objs ++ l) low :=
  ⟨by simp, Nat.le_refl _, fun id _ h => by rw [List.getElem?_append_left h], fun hb h id x hi hx => by
    rw [List.getElem?_append_left (by omega)] at hx; exact h id x hi hx⟩
theorem LowOk.set {base low id ver : Nat} {objs : List AO} {cs : List V} (h : id < base → (Clean base objs → norefs base cs = true)) : LowOk base objs low (objs.set id (.cells cs ver)) (if id < low then id else low) := by
  refine ⟨by simp, by split <;> omega, fun i hi _ => ?_, fun hb h' i x hi hx => ?_⟩
  · rw [List.getElem?_set_ne]
    intro he; split at hi <;> omega
  · by_cases he : i = id
    · subst he
      rw [List.getElem?_set_self (by omega)] at hx; cases hx
      exact h hi h'
    · rw [List.getElem?_set_ne (fun q => he q.symm)] at hx
      exact h' i x hi hx
theorem LowOk.setMap {base low id : Nat} {objs : List AO} {es : List (V × V)} (h : id < base → (Clean base objs → norefs base (aoVals (.map es)) = true)) : LowOk base objs low (objs.set id (.map es)) (if id < low then id else low) := by
  refine ⟨by simp, by split <;> omega, fun i hi _ => ?_, fun hb h' i x hi hx => ?_⟩
  · rw [List.getElem?_set_ne]
    intro he; split at hi <;> omega
  · by_cases he : i = id
    · subst he
      rw [List.getElem?_set_self (by omega)] at hx; cases hx
      exact h hi h'
    · rw [List.getElem?_set_ne (fun q => he q.symm)] at hx
      exact h' i x hi hx
theorem getObj_get {objs : List AO} {id ver : Nat} {cs : List V} (h : getObj objs id ver = some cs) : objs[id]? = some (.cells cs ver) := by
  unfold getObj at h
  split at h
  · rename_i cs' v hg
    split at h <;> cases h
    rename_i hv; subst hv; exact hg
  · cases h
theorem actV_low {P : Program} {ρ : Operand → V} {base low : Nat} {objs : List AO} {op : Op} {r : V × List AO × Nat} (h : actV P ρ base objs low op = some r) : LowOk base objs low r.2.1 r.2.2 := by
  cases op with
  | alloc t =>
    simp only [actV] at h
    cases hz : zeroV P t with
    | none => rw [hz] at h; cases h
    | some z => rw [hz] at h; cases h; exact LowOk.ext ..
  | box t x => simp only [actV] at h; split at h <;> cases h; exact LowOk.ext ..
  | store t x y =>
    simp only [actV] at h
    split at h
    case h_2 => cases h
    rename_i id ver off hk
    split at h
    case h_2 => cases h
    rename_i cs n hg hn
    split at h <;> cases h
    rename_i hc
    refine LowOk.set fun hi hcl => ?_
    have h1 := norefs_iff.1 (hcl id (.cells cs ver) hi (getObj_get hg))
    have h2 := norefs_iff.1 (hc.2.2.2 hi)
    refine norefs_iff.2 fun v hv => ?_
    unfold setCells at hv
    rw [List.mem_append, List.mem_append] at hv
    rcases hv with (hv | hv) | hv
    · exact h1 v (List.mem_of_mem_take hv)
    · exact h2 v hv
    · exact h1 v (List.mem_of_mem_drop hv)
  | makeMap t r =>
    simp only [actV] at h
    split at h <;> cases h
    exact LowOk.ext ..
  | mapUpdate t m k x =>
    simp only [actV] at h
    unfold updateV at h
    split at h
    case h_2 => cases h
    rename_i kt et id hu hm
    split at h
    case h_2 => cases h
    rename_i d es hd hg
    split at h
    case h_2 => cases h
    rename_i f hf
    split at h <;> cases h
    rename_i hc
    refine LowOk.setMap fun hi hcl => ?_
    have hge : objs[id]? = some (.map es) := by
      unfold Ab.getMap at hg
      split at hg <;> cases hg
      assumption
    have h1 := norefs_iff.1 (hcl id (.map es) hi hge)
    have hkr : noref base (ρ k) = true := by
      have := hc.1
      unfold keyOk keyEq at this
      split at this <;> first | (rename_i e; rw [e]; rfl) | cases this
    have h2 : ∀ p ∈ putMap es f (ρ k) (demote (ρ x)), p ∈ es ∨ p = (ρ k, demote (ρ x)) := by
      intro p hp
      unfold putMap at hp
      split at hp
      · exact (List.mem_or_eq_of_mem_set hp)
      · simpa using hp
    refine norefs_iff.2 fun v hv => ?_
    simp only [aoVals, List.mem_flatMap] at hv
    obtain ⟨p, p1, p2⟩ := hv
    rcases h2 p p1 with p3 | p3
    · exact h1 v (by simp only [aoVals, List.mem_flatMap]; exact ⟨p, p3, p2⟩)
    · subst p3
      simp only [List.mem_cons, List.not_mem_nil, or_false] at p2
      rcases p2 with p2 | p2
      · rw [p2]; exact hkr
      · rw [p2]; exact hc.2 hi
  | makeSlice t l c =>
    simp only [actV] at h
    split at h
    case h_2 => cases h
    split at h
    case h_2 => cases h
    split at h <;> cases h
    exact LowOk.ext ..
  | buildSlice t n parts =>
    simp only [actV] at h
    split at h
    case h_2 => cases h
    split at h <;> cases h
    exact LowOk.ext ..
  | call c =>
    obtain ⟨callee, args, ats⟩ := c
    cases callee with
    | value f => simp only [actV] at h; cases h
    | invoke r m => simp only [actV] at h; cases h
    | builtin b =>
      cases b with
      | append =>
        simp only [actV] at h
        split at h
        case h_2 => cases h
        split at h
        case h_2 => cases h
        split at h
        case h_2 => cases h
        split at h
        · cases h
        split at h
        · cases h
        split at h
        · split at h
          · split at h <;> cases h
            · exact LowOk.refl ..
            · exact LowOk.ext ..
          · cases h
        · split at h
          case h_2 => cases h
          rename_i cs hg
          split at h <;> cases h
          rename_i hc
          refine LowOk.set fun hi hcl => ?_
          have h1 := norefs_iff.1 (hcl _ (.cells cs _) hi (getObj_get hg))
          have h2 := norefs_iff.1 (hc.2.2.2 hi)
          exact norefs_iff.2 fun v hv => (List.mem_append.1 hv).elim (h1 v) (h2 v)
        · cases h
      | copy =>
        simp only [actV] at h
        split at h
        case h_2 => cases h
        split at h
        case h_2 => cases h
        split at h
        case h_2 => cases h
        unfold copyV at h
        split at h
        · cases h
        split at h
        case h_2 => cases h
        split at h
        case h_2 => cases h
        rename_i cs hg
        split at h <;> cases h
        rename_i hc
        refine LowOk.set fun hi hcl => ?_
        have h1 := norefs_iff.1 (hcl _ (.cells cs _) hi (getObj_get hg))
        have h2 := norefs_iff.1 (hc.2.2.2.2.2 hi)
        refine norefs_iff.2 fun v hv => ?_
        unfold setCells at hv
        rw [List.mem_append, List.mem_append] at hv
        rcases hv with (hv | hv) | hv
        · exact h1 v (List.mem_of_mem_take hv)
        · exact h2 v hv
        · exact h1 v (List.mem_of_mem_drop hv)
      | _ => simp only [actV] at h; cases h
  | _ => simp only [actV] at h; cases h
/-- What is seen from objects alone names none beyond them. -/
theorem VR.noref {G : Gh} {w : World} {b : Nat} (hn : ∀ id ver, b ≤ id → G.loc id ver = none) {v : V} {c : Value} (h : VR G w v c) : noref b v = true := by
  have ix : ∀ {xs : List V}, (∀ j (h : j < xs.length), Ab.noref b (xs[j]'h) = true) → norefs b xs = true := by
    intro xs hx
    exact norefs_iff.2 fun v hv => by
      obtain ⟨j, hj, rfl⟩ := List.getElem_of_mem hv
      exact hx j hj
  have lc : ∀ {id ver p}, G.loc id ver = some p → id < b := by
    intro id ver p h
    rcases Nat.lt_or_ge id b with h1 | h1
    · exact h1
    · rw [hn id ver h1] at h; cases h
  induction h with
  | lst f hl hst hc hv ih => simpa [Ab.noref] using ix ih
  | ref hloc hl hp hb2 hs => simpa [Ab.noref] using lc hloc
  | ptr hloc => simpa [Ab.noref] using lc hloc
  | fptr f hst hc hv ih => simpa [Ab.noref] using ix ih
  | fn h1 h2 v1 v2 i1 i2 => simpa [Ab.noref] using ⟨ix i1, ix i2⟩
  | iface _ ih => simpa [Ab.noref] using ih
  | map hloc => simpa [Ab.noref] using lc hloc
  | agg h hv ih => simpa [Ab.noref] using ix ih
  | tup h hv ih => simpa [Ab.noref] using ix ih
  | _ => simp [Ab.noref]
theorem Store.clean {G : Gh} {tl : Nat → Nat → Option (Nat × Nat)} {E : Nat} {toks : List Nat} {objs : List AO} {w : World} (h : Store G tl E toks objs w) : Clean objs.length objs := by
  intro id x hi hx
  refine norefs_iff.2 fun v hv => ?_
  cases x with
  | cells cs ver =>
    obtain ⟨b, o, arr, el, h1, h2, h3, h4⟩ := h.cellsR id cs ver hx
    obtain ⟨j, hj, rfl⟩ := List.getElem_of_mem (show v ∈ cs from hv)
    exact (h3 j hj).noref (fun id ver hi => h.news id hi ver)
  | map es =>
    obtain ⟨b, arr, cl, h1, h2, h3, h4⟩ := h.maps.row id es hx
    obtain ⟨p, hp, hv⟩ := List.mem_flatMap.1 (show v ∈ es.flatMap (fun p => [p.1, p.2]) from hv)
    obtain ⟨j, hj, rfl⟩ := List.getElem_of_mem hp
    obtain ⟨m1, m2⟩ := h3.2 j hj (by rw [h3.1]; exact hj)
    rcases List.mem_cons.1 hv with rfl | hv
    · exact m1.noref (fun id ver hi => h.news id hi ver)
    · rw [List.mem_singleton.1 hv]; exact m2.noref (fun id ver hi => h.news id hi ver)
theorem clean_iff {base : Nat} {objs : List AO} (h : Ab.clean base objs = true) : Clean base objs := by
  intro id x hi hx
  unfold Ab.clean at h
  rw [List.all_eq_true] at h
  have := h x (List.mem_iff_getElem?.2 ⟨id, by rw [List.getElem?_take_of_lt hi]; exact hx⟩)
  cases x <;> exact this
/-! rows of arguments -/
def AR (G : Gh) (w : World) : List V → List Value → Prop
  | [], [] => True
  | v :: vs, c :: cs => (VR G w v c ∧ (∀ k cs len, v = .lst k cs len → k = .frozen) ∧ ∀ vs, v ≠ .tup vs) ∧ AR G w vs cs
  | _, _ => False
theorem AR.append {G : Gh} {w : World} : ∀ {vs us : List V} {cs ds : List Value}, AR G w vs cs → AR G w us ds → AR G w (vs ++ us) (cs ++ ds)
  | [], _, [], _, _, k => k
  | _ :: _, _, _ :: _, _, h, k => ⟨h.1, AR.append h.2 k⟩
  | [], _, _ :: _, _, h, _ => h.elim
  | _ :: _, _, [], _, h, _ => h.elim
theorem AR.demotes {G : Gh} {w : World} : ∀ {vs : List V} {cs : List Value} (_ : cs.length = vs.length) (_ : ∀ j (h : j < vs.length), VR G w (vs[j]'h) (cs.getD j Go.undef)), AR G w (vs.map demote) cs
  | [], [], _, _ => trivial
  | v :: vs, c :: cs, hl, h => ⟨⟨(h 0 (by simp)).demote, (demote_plain v).1, (demote_plain v).2⟩, AR.demotes (by simpa using hl) fun j hj => by have h' := h (j + 1) (Nat.succ_lt_succ hj); rw [List.getElem_cons_succ, List.getD_cons_succ] at h'; exact h'⟩
  | [], _ :: _, hl, _ => by simp at hl
  | _ :: _, [], hl, _ => by simp at hl
theorem AR.get {G : Gh} {w : World} : ∀ {vs : List V} {cs : List Value}, AR G w vs cs → ∀ i, VR G w (vs.getD i .undef) (cs.getD i Go.undef) ∧ (∀ k cs len, vs.getD i .undef = .lst k cs len → k = .frozen) ∧ ∀ us, vs.getD i .undef ≠ .tup us
  | [], [], _, i => by simpa using VR.undef (c := Go.undef) (fun _ h => by cases h)
  | v :: vs, c :: cs, h, 0 => by simpa using h.1
  | v :: vs, c :: cs, h, i + 1 => by simpa using AR.get h.2 i
  | [], _ :: _, h, _ => h.elim
  | _ :: _, [], h, _ => h.elim
theorem AR.len {G : Gh} {w : World} : ∀ {vs : List V} {cs : List Value}, AR G w vs cs → cs.length = vs.length
  | [], [], _ => rfl
  | v :: vs, c :: cs, h => by simpa using AR.len h.2
  | [], _ :: _, h => h.elim
  | _ :: _, [], h => h.elim
/-! calls -/
abbrev noTl : Nat → Nat → Option (Nat × Nat) := fun _ _ => none
/-- What is known where a call is over. -/
structure Back (G : Gh) (objs : List AO) (w : World) (v : V) (objs' : List AO) (c : Value) (w' : World) (G' : Gh) : Prop where
  gle : GLe G G'
  wle : WLe G w w'
  store : Store G' noTl w.heap.size [] objs' w'
  fr : ∀ b, b < w.heap.size → ¬ Owned G objs b → w'.heap[b]? = w.heap[b]?
  prov : ∀ id b, OwnedAt G' objs' id b → w.heap.size ≤ b ∨ OwnedAt G objs id b
  stn : ∀ b x, b < w.heap.size → G'.st b x → G.st b x
  res : ResultOk G' objs' w.heap.size w' v c
def Entered (P : Program) (g : FuncId) (cargs : Array Value) (w : World) (R : Value → World → Prop) : Prop :=
  ((callFunc g cargs).run P w = .ok (.enter g cargs) w ∧ Calls P g cargs w (fun | .returned c, w' => R c w' | _, _ => False)) ∨ ∃ c w', (callFunc g cargs).run P w = .ok (.value c) w' ∧ R c w'
def CallOk (P : Program) (call : CallF) : Prop := ∀ g args objs v r, call g args objs = some (v, r) →
  (∀ objs' low', r = some (objs', low') → objs.length ≤ objs'.length ∧ ∀ id, id < low' → id < objs.length → objs'[id]? = objs[id]?) ∧
  ∀ (G : Gh) (w : World) (cargs : Array Value), Store G noTl w.heap.size [] objs w → AR G w args cargs.toList → Entered P g cargs w (fun c w' => ∃ G', Back G objs w v ((r.map (·.1)).getD objs) c w' G')
section
variable {P : Program} {A : Ann} {G : Gh} {tl : Nat → Nat → Option (Nat × Nat)} {E : Nat} {toks : List Nat} {objs : List AO} {w : World} {env : Nat → V} {a : Act}
theorem Store.enter {E' : Nat} (h : Store G tl E toks objs w) : Store G noTl E' [] objs w :=
  ⟨h.cellsR, h.vers, h.news, fun t n ht => by simp at ht, fun t n ht => by simp at ht, fun _ _ _ => rfl, h.oo, fun t t' n n' b o o' ht => by simp at ht, fun i cs v t n b o o' _ ht => by simp at ht, h.lt, fun b hb => (by obtain ⟨_, _, _, h⟩ := hb; cases h), h.maps⟩
theorem Store.tokFree (h : Store G tl E toks objs w) {t n b o : Nat} (ht : toks[t]? = some n) (hl : tl t n = some (b, o)) : ∀ id, ¬ OwnedAt G objs id b := by
  rintro id ⟨ver, o2, ⟨cs, q1⟩ | ⟨rfl, es, q1⟩, q2⟩
  · exact h.ot id cs ver t n b o2 o q1 ht q2 hl
  · obtain ⟨b', o', arr, el, h1, h2, _⟩ := h.toksR t n ht
    rw [h1] at hl; cases hl
    obtain ⟨b3, a3, c3, m1, m2, _⟩ := h.maps.row id es q1
    rw [m1] at q2; cases q2
    have := h2.at_
    rw [m2] at this; cases this
theorem Store.back {v : V} {objs' : List AO} {c : Value} {w' : World} {G' : Gh} (h : Store G tl E toks objs w) (k : Back G objs w v objs' c w' G') : Store G' tl E toks objs' w' := by
  refine ⟨k.store.cellsR, k.store.vers, k.store.news, ?_, h.tnew, h.tnews, k.store.oo, h.tt, ?_, k.store.lt, fun b hb => Nat.lt_of_lt_of_le (h.tbl b hb) k.wle.size, k.store.maps⟩
  · intro t n ht
    obtain ⟨b, o, arr, el, h1, h2, h3, h4⟩ := h.toksR t n ht
    have hb := lt_of_get h2.at_
    have hno : ¬ Owned G objs b := fun ⟨id, q⟩ => h.tokFree ht h1 id q
    exact ⟨b, o, arr, el, h1, ⟨(k.fr b hb hno).trans h2.at_, h2.fit⟩, fun x hx hst => h3 x hx (k.stn b x hb hst), h4⟩
  · intro i cs ver t n b o o' hi ht l1 l2
    rcases k.prov i b (.cells hi l1) with h1 | q
    · have := h.tbl b ⟨t, n, o', l2⟩; omega
    · exact h.tokFree ht l2 i q
theorem bindRes_len {ms : List Md} {toks : List Nat} {objs : List AO} {v : V} {r : V × List Nat × List AO} (h : bindRes ms toks objs v = some r) : ∃ l, r.2.2 = objs ++ l := by
  have one : ∀ m toks objs v r, bind1 m toks objs v = some r → ∃ l, r.2.2 = objs ++ l := by
    intro m toks objs v r h
    unfold bind1 at h
    split at h
    · cases h; exact ⟨[], by simp⟩
    · cases h; exact ⟨_, rfl⟩
    · cases h; exact ⟨[], by simp⟩
  have all : ∀ vs ms toks objs r, bindAll ms toks objs vs = some r → ∃ l, r.2.2 = objs ++ l := by
    intro vs
    induction vs with
    | nil => intro ms toks objs r h; simp only [bindAll] at h; cases h; exact ⟨[], by simp⟩
    | cons v vs ih =>
      intro ms toks objs r h
      simp only [bindAll] at h
      split at h
      case h_2 => cases h
      rename_i v' toks1 objs1 h1
      split at h
      case h_2 => cases h
      rename_i vs' toks2 objs2 h2
      cases h
      obtain ⟨l1, e1⟩ := one _ _ _ _ _ h1
      obtain ⟨l2, e2⟩ := ih _ _ _ _ h2
      simp only at e1 e2
      subst e1; subst e2
      exact ⟨l1 ++ l2, by simp⟩
  unfold bindRes at h
  split at h
  · rename_i vs
    cases hb : bindAll ms toks objs vs with
    | none => rw [hb] at h; cases h
    | some r' => rw [hb] at h; cases h; exact all _ _ _ _ _ hb
  · exact one _ _ _ _ _ h
theorem bindRes_frozen {v : V} {r : V × List Nat × List AO} (h : bindRes [] [] [] v = some r) (toks : List Nat) (objs : List AO) : bindRes [] toks objs v = some (r.1, toks, objs) := by
  have one : ∀ toks objs v, bind1 .frozen toks objs v = some (demote v, toks, objs) := by
    intro toks objs v
    unfold bind1
    split
    · rename_i hq; cases hq
    · rename_i hq; cases hq
    · rfl
  have all : ∀ vs toks objs, bindAll [] toks objs vs = some (vs.map demote, toks, objs) := by
    intro vs
    induction vs with
    | nil => intro toks objs; rfl
    | cons v vs ih => intro toks objs; simp only [bindAll, List.headD_nil, List.tail_nil, one, ih]; rfl
  unfold bindRes at h ⊢
  split at h
  · rename_i vs
    rw [all] at h ⊢; cases h; rfl
  · simp only [List.headD_nil, one] at h ⊢
    cases h; rfl
theorem does_wp {o : Oper} {v : V} {toks' : List Nat} {objs' : List AO} {K : Act → World → Prop} {Q : Exit → Act → World → Prop} (h : Does P G tl E objs w a o v toks' objs')
    (hK : ∀ c w' G' tl', ResOk G tl E objs w v toks' objs' c w' G' tl' → K (a.put o.dst c) w') : o.wp P a w K Q := by
  obtain ⟨c, w', G', tl', h1, h2⟩ := h
  unfold Oper.wp
  rcases h1 with h1 | ⟨h1, rfl⟩
  · rw [h1]; exact hK _ _ _ _ h2
  · rw [h1]; exact hK _ _ _ _ h2
theorem target_args {c : Call} {g : FuncId} {args : List V} (he : EnvR G tl E w env a) (h : target (opd env) c = some (g, args)) :
    ∃ cargs : Array Value, (∀ ty, (do let d ← resolve a.eval c ty; invoke d.target d.args : Sem Next) = callFunc g cargs) ∧ AR G w args cargs.toList := by
  obtain ⟨callee, as, ats⟩ := c
  unfold target at h
  cases callee with
  | value f =>
    simp only at h
    split at h
    case h_2 => cases h
    rename_i g' first cap hf
    cases h
    have hx := opd_vr he f
    rw [hf] at hx
    obtain ⟨fs, bs, e1, e2, e3, e4, e5⟩ := hx.fn_inv
    refine ⟨(fs ++ as.map a.eval) ++ bs, fun ty => ?_, ?_⟩
    · simp [resolve, e1, Deferred.ofValue, invoke]
    · rw [Array.toList_append, Array.toList_append]
      have g1 : ∀ (xs : Array Value) j, xs.toList.getD j Go.undef = xs.getD j Go.undef := fun xs j => by simp [List.getD, Array.getD_eq_getD_getElem?]
      refine AR.append (AR.append (AR.demotes (by simpa using e2) (fun j hj => by rw [g1]; exact e4 j hj)) ?_) (AR.demotes (by simpa using e3) (fun j hj => by rw [g1]; exact e5 j hj))
      rw [show as.toList.map (fun x => demote (opd env x)) = (as.toList.map (opd env)).map demote by simp]
      refine AR.demotes (by simp) (fun j hj => ?_)
      rw [g1]
      simp only [List.length_map, Array.length_toList] at hj
      simp only [List.getElem_map, Array.getElem_toList]
      rw [getD_eq (by simpa using hj)]
      simp only [Array.getElem_map]
      exact opd_vr he _
  | builtin b => simp only at h; cases h
  | invoke r m => simp only at h; cases h
theorem call_wp {call : CallF} {o : Oper} {c : Call} {g : FuncId} {args : List V} {v : V} {r : Option (List AO × Nat)} {ms : List Md} {r' : V × List Nat × List AO} {K : Act → World → Prop} {Q : Exit → Act → World → Prop} (hc : CallOk P call) (hop : o.op = .call c) (he : EnvR G tl E w env a) (hs : Store G tl E toks objs w) (hE : E ≤ w.heap.size)
    (ht : target (opd env) c = some (g, args)) (hcall : call g args objs = some (v, r)) (hb : bindRes ms toks ((r.map (·.1)).getD objs) v = some r')
    (hK : ∀ c w' G' tl', ResOk G tl E objs w r'.1 r'.2.1 r'.2.2 c w' G' tl' → K (a.put o.dst c) w') : o.wp P a w K Q := by
  obtain ⟨cargs, h1, h2⟩ := target_args he ht
  have hent := (hc g args objs v r hcall).2 G w cargs hs.enter h2
  have hexec : execOp a.eval o = callFunc g cargs := by
    rw [← h1 o.type]; simp only [execOp, hop]
  have fin : ∀ cv w' G', Back G objs w v ((r.map (·.1)).getD objs) cv w' G' → K (a.put o.dst cv) w' := by
    intro cv w' G' k
    obtain ⟨G2, tl2, q1, q2, q3⟩ := bindRes_ok (Ec := E) (E := w.heap.size) hE (hs.back k) hs.tbl k.res hb
    refine hK cv w' G2 tl2 ⟨q1, q2, k.gle.trans q3.gle, ⟨q3.old, q3.new⟩, k.wle, q3.store, fun b hb hno => k.fr b (by omega) hno, fun id b hb => ?_, fun b x hb hx => k.stn b x (by omega) (q3.stn b x (by omega) hx)⟩
    rcases q3.prov id b hb with h | h
    · left; omega
    · exact (k.prov id b h).imp (fun h => by omega) (fun h => h)
  unfold Oper.wp
  rw [hexec]
  rcases hent with ⟨e1, e2⟩ | ⟨cv, w', e1, G', e2⟩
  · rw [e1, Oper.upon_enter]
    refine Calls.mono e2 fun e w'' hx => ?_
    cases e with
    | returned cv => obtain ⟨G', hk⟩ := hx; exact fin cv w'' G' hk
    | panicked ch => exact hx.elim
    | outgrown => exact hx.elim
  · rw [e1]; exact fin cv w' G' e2
theorem bindRes_calm {ms : List Md} (hm : ms.all (· != .ref) = true) {toks : List Nat} {objs : List AO} {v : V} {r : V × List Nat × List AO} (h : bindRes ms toks objs v = some r) : r.2.2 = objs := by
  have one : ∀ m toks objs v r, m ≠ .ref → bind1 m toks objs v = some r → r.2.2 = objs := by
    intro m toks objs v r hm h
    unfold bind1 at h
    split at h
    · cases h; rfl
    · exact absurd rfl hm
    · cases h; rfl
  have hd : ∀ ms : List Md, ms.all (· != .ref) = true → ms.headD .frozen ≠ .ref ∧ ms.tail.all (· != .ref) = true := by
    intro ms h
    cases ms with
    | nil => exact ⟨by simp, rfl⟩
    | cons m ms => rw [List.all_cons, Bool.and_eq_true] at h; exact ⟨by simpa using h.1, h.2⟩
  have all : ∀ vs ms toks objs r, ms.all (· != .ref) = true → bindAll ms toks objs vs = some r → r.2.2 = objs := by
    intro vs
    induction vs with
    | nil => intro ms toks objs r _ h; unfold bindAll at h; cases h; rfl
    | cons v vs ih =>
      intro ms toks objs r hm h
      unfold bindAll at h
      split at h
      case h_2 => cases h
      rename_i v' tk ob h1
      split at h
      case h_2 => cases h
      rename_i vs' tk' ob' h2
      cases h
      have e1 := one _ _ _ _ _ (hd ms hm).1 h1
      have e2 := ih _ _ _ _ (hd ms hm).2 h2
      simp only at e1 e2 ⊢
      rw [e2, e1]
  unfold bindRes at h
  split at h
  · cases hb : bindAll ms toks objs _ with
    | none => rw [hb] at h; cases h
    | some r0 => rw [hb] at h; cases h; exact all _ _ _ _ _ hm hb
  · exact one _ _ _ _ _ (hd ms hm).1 h
/-- One operation. -/
theorem op_wp {call : CallF} {f : FuncId} {base : Nat} {o : Oper} {s : St} {r : V × List Nat × List AO × Nat} {K : Act → World → Prop} {Q : Exit → Act → World → Prop} (hc : CallOk P call) (he : EnvR G tl E w s.env a) (hs : Store G tl E s.toks s.objs w) (hE : E ≤ w.heap.size)
    (h : evalOp P A call f base o s = some r) (hK : ∀ c w' G' tl', ResOk G tl E s.objs w r.1 r.2.1 r.2.2.1 c w' G' tl' → K (a.put o.dst c) w') : o.wp P a w K Q := by
  unfold evalOp at h
  split at h
  · cases hv : pureX P (opd s.env) o.op with
    | none => rw [hv] at h; cases h
    | some v => rw [hv] at h; cases h; exact does_wp (pureX_ok he hs hE hv) hK
  · cases hv : readV P (opd s.env) s.objs o.op with
    | none => rw [hv] at h; cases h
    | some v => rw [hv] at h; cases h; exact does_wp (read_ok he hs hv) hK
  · cases hv : tokV P (opd s.env) s.objs s.toks o.op with
    | none => rw [hv] at h; cases h
    | some v => rw [hv] at h; cases h; exact does_wp (tok_ok he hs hE hv) hK
  · cases hv : actV P (opd s.env) base s.objs s.low o.op with
    | none => rw [hv] at h; cases h
    | some v => rw [hv] at h; cases h; exact does_wp (act_ok he hs hE hv) hK
  · split at h
    case h_2 => cases h
    rename_i c hop
    cases hv : readCall call (opd s.env) s.objs c with
    | none => rw [hv] at h; cases h
    | some v =>
      rw [hv] at h; cases h
      unfold readCall at hv
      split at hv
      case h_2 => cases hv
      rename_i g args ht
      split at hv
      case h_2 => cases hv
      rename_i v0 hcall
      cases hb : bindRes [] [] [] v0 with
      | none => rw [hb] at hv; cases hv
      | some r0 =>
        rw [hb] at hv; cases hv
        exact call_wp hc hop he hs hE ht hcall (bindRes_frozen hb s.toks s.objs) hK
  · split at h
    case h_2 => cases h
    rename_i c hop
    unfold fullCall at h
    split at h
    case h_2 => cases h
    rename_i g args ht
    split at h
    · rename_i v0 hcall
      cases hb : bindRes (A.modes f o.dst) s.toks s.objs v0 with
      | none => rw [hb] at h; cases h
      | some r0 =>
        rw [hb] at h; cases h
        exact call_wp hc hop he hs hE ht hcall hb hK
    · rename_i v0 objs' low' hcall
      split at h
      · cases h
      cases hb : bindRes (A.modes f o.dst) s.toks objs' v0 with
      | none => rw [hb] at h; cases h
      | some r0 =>
        rw [hb] at h; cases h
        exact call_wp hc hop he hs hE ht hcall hb hK
    · cases h
  · split at h
    case h_2 => cases h
    rename_i c hop
    split at h
    case isFalse => cases h
    rename_i hm
    cases hv : calmCall call (opd s.env) (A.modes f o.dst) s.toks s.objs c with
    | none => rw [hv] at h; cases h
    | some v =>
      rw [hv] at h; cases h
      unfold calmCall at hv
      split at hv
      case h_2 => cases hv
      rename_i g args ht
      split at hv
      case h_2 => cases hv
      rename_i v0 hcall
      cases hb : bindRes (A.modes f o.dst) s.toks s.objs v0 with
      | none => rw [hb] at hv; cases hv
      | some r0 =>
        rw [hb] at hv; cases hv
        have e := bindRes_calm hm hb
        have := call_wp hc hop he hs hE ht hcall hb (K := K) (Q := Q)
        rw [e] at this
        exact this hK
theorem op_low {call : CallF} {f : FuncId} {base : Nat} {o : Oper} {s : St} {r : V × List Nat × List AO × Nat} (hc : CallOk P call) (h : evalOp P A call f base o s = some r) : LowOk base s.objs s.low r.2.2.1 r.2.2.2 := by
  unfold evalOp at h
  split at h
  · cases hv : pureX P (opd s.env) o.op with
    | none => rw [hv] at h; cases h
    | some v => rw [hv] at h; cases h; exact LowOk.refl ..
  · cases hv : readV P (opd s.env) s.objs o.op with
    | none => rw [hv] at h; cases h
    | some v => rw [hv] at h; cases h; exact LowOk.refl ..
  · cases hv : tokV P (opd s.env) s.objs s.toks o.op with
    | none => rw [hv] at h; cases h
    | some v => rw [hv] at h; cases h; exact LowOk.refl ..
  · cases hv : actV P (opd s.env) base s.objs s.low o.op with
    | none => rw [hv] at h; cases h
    | some v => rw [hv] at h; cases h; exact actV_low hv
  · split at h
    case h_2 => cases h
    rename_i c hop
    cases hv : readCall call (opd s.env) s.objs c with
    | none => rw [hv] at h; cases h
    | some v => rw [hv] at h; cases h; exact LowOk.refl ..
  · split at h
    case h_2 => cases h
    rename_i c hop
    unfold fullCall at h
    split at h
    case h_2 => cases h
    rename_i g args ht
    split at h
    · rename_i v0 hcall
      cases hb : bindRes (A.modes f o.dst) s.toks s.objs v0 with
      | none => rw [hb] at h; cases h
      | some r0 =>
        rw [hb] at h; cases h
        obtain ⟨l, e⟩ := bindRes_len hb
        simp only; rw [e]
        exact LowOk.ext ..
    · rename_i v0 objs' low' hcall
      split at h
      · cases h
      rename_i hcl
      cases hb : bindRes (A.modes f o.dst) s.toks objs' v0 with
      | none => rw [hb] at h; cases h
      | some r0 =>
        rw [hb] at h; cases h
        obtain ⟨l, e⟩ := bindRes_len hb
        simp only; rw [e]
        obtain ⟨g1, g2⟩ := (hc _ _ _ _ _ hcall).1 objs' low' rfl
        refine ⟨by simp; omega, by split <;> omega, fun id h1 h2 => ?_, fun hb hcln id x hi hx => ?_⟩
        · rw [List.getElem?_append_left (by omega)]
          exact g2 id (by split at h1 <;> omega) h2
        · rw [List.getElem?_append_left (by omega)] at hx
          by_cases hlo : low' < base
          · have : Ab.clean base objs' = true := by
              cases hq : Ab.clean base objs' with
              | true => rfl
              | false => exact absurd ⟨hlo, hq⟩ hcl
            exact clean_iff this id x hi hx
          · rw [g2 id (by omega) (by omega)] at hx
            exact hcln id x hi hx
    · cases h
  · split at h
    case h_2 => cases h
    rename_i c hop
    split at h
    case isFalse => cases h
    cases hv : calmCall call (opd s.env) (A.modes f o.dst) s.toks s.objs c with
    | none => rw [hv] at h; cases h
    | some v => rw [hv] at h; cases h; exact LowOk.refl ..
end
end Go.Ab
