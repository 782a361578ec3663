import Derived.Test.YtdfcbophcfjakaaAb34
set_option linter.unusedSimpArgs false
set_option linter.unusedVariables false
set_option linter.unusedSectionVars false
/- Regions whose allocations may come early: an order for all, and two objects that change places. -/
namespace Go.Ab
def swp (m i : Nat) : Nat := if i = m then m + 1 else if i = m + 1 then m else i
theorem swp_swp (m i : Nat) : swp m (swp m i) = i := by unfold swp; split <;> (try split) <;> (try split) <;> omega
theorem swp_inj {m i j : Nat} (h : swp m i = swp m j) : i = j := by have := congrArg (swp m) h; rwa [swp_swp, swp_swp] at this
theorem swp_lt {m i : Nat} (h : i < m) : swp m i = i := by unfold swp; rw [if_neg (by omega), if_neg (by omega)]
theorem swp_ge {m i : Nat} (h : m + 2 ≤ i) : swp m i = i := by unfold swp; rw [if_neg (by omega), if_neg (by omega)]
theorem swp_get {L : List AO} {x y : AO} (i : Nat) : (L ++ [y, x])[i]? = (L ++ [x, y])[swp L.length i]? := by
  unfold swp
  by_cases h1 : i = L.length
  · subst h1; simp
  · by_cases h2 : i = L.length + 1
    · subst h2; simp
    · rw [if_neg h1, if_neg h2]
      rcases Nat.lt_or_ge i L.length with h | h
      · rw [List.getElem?_append_left h, List.getElem?_append_left h]
      · rw [List.getElem?_append_right h, List.getElem?_append_right h]
        obtain ⟨k, hk⟩ : ∃ k, i - L.length = k + 2 := ⟨i - L.length - 2, by omega⟩
        rw [hk]; rfl
/-- Two new objects that nothing but their own slots know change places. -/
theorem In.swap {n : Nat} {G0 : Gh} {w0 : World} {objs0 : List AO} {bb : Nat} {s : St} {a : Act} {w : World} {L : List AO} {cA cB : List V} {d1 d2 : Nat} (hF : In n G0 w0 objs0 bb s a w) (ho : s.objs = L ++ [.cells cA 0, .cells cB 0]) (h0 : objs0.length ≤ L.length)
    (hL : ∀ (id : Nat) cs ver, L[id]? = some (AO.cells cs ver) → norefs L.length cs = true) (hA : norefs L.length cA = true) (hB : norefs L.length cB = true) (hmap : ∀ (id : Nat) es, L[id]? ≠ some (AO.map es)) (he : ∀ d, d ≠ d1 → d ≠ d2 → noref L.length (s.env d) = true)
    (h1 : s.env d1 = .ptr (L.length + 1) 0 0) (h2 : s.env d2 = .ptr L.length 0 0) (hd : d1 ≠ d2) :
    In n G0 w0 objs0 bb { s with env := fun d => if d = d1 then .ptr L.length 0 0 else if d = d2 then .ptr (L.length + 1) 0 0 else s.env d, objs := L ++ [.cells cB 0, .cells cA 0] } a w := by
  obtain ⟨G, tl, hF⟩ := hF
  obtain ⟨m, hm⟩ : ∃ m, m = L.length := ⟨_, rfl⟩
  have hget : ∀ i, (L ++ [AO.cells cB 0, AO.cells cA 0])[i]? = s.objs[swp m i]? := fun i => by rw [ho, hm]; exact swp_get i
  obtain ⟨G', hG'⟩ : ∃ G' : Gh, G' = ⟨fun id ver => G.loc (swp m id) ver, G.st⟩ := ⟨_, rfl⟩
  have hloc : ∀ id ver, G'.loc id ver = G.loc (swp m id) ver := fun id ver => by rw [hG']
  have hst : G'.st = G.st := by rw [hG']
  have hcle : GLe (G.cut m) G' := by
    refine ⟨fun id ver p hp => ?_, fun b o q => by rw [hst]; exact q⟩
    rw [hloc]
    unfold Gh.cut at hp
    simp only at hp
    split at hp
    · rename_i hlt; rw [swp_lt hlt]; exact hp
    · cases hp
  have hvr : ∀ {v c}, VR G w v c → noref m v = true → VR G' w v c := fun h hn => (h.cut hn).mono hcle (WLe.refl _ w)
  have hall : ∀ (id : Nat) cs ver, s.objs[id]? = some (AO.cells cs ver) → norefs m cs = true := fun id cs ver hi => by
    rw [ho] at hi
    rcases Nat.lt_or_ge id L.length with q | q
    · rw [List.getElem?_append_left q] at hi; rw [hm]; exact hL id cs ver hi
    · rw [List.getElem?_append_right q] at hi
      rcases Nat.lt_or_ge (id - L.length) 2 with q2 | q2
      · rcases Nat.eq_zero_or_pos (id - L.length) with q3 | q3
        · rw [q3] at hi; cases hi; rw [hm]; exact hA
        · rw [show id - L.length = 1 by omega] at hi; cases hi; rw [hm]; exact hB
      · rw [List.getElem?_eq_none (by simpa using q2)] at hi; cases hi
  have hnom : ∀ (id : Nat) es, s.objs[id]? ≠ some (AO.map es) := fun id es hi => by
    rw [ho] at hi
    rcases Nat.lt_or_ge id L.length with q | q
    · rw [List.getElem?_append_left q] at hi; exact hmap id es hi
    · rw [List.getElem?_append_right q] at hi
      rcases Nat.lt_or_ge (id - L.length) 2 with q2 | q2
      · rcases Nat.eq_zero_or_pos (id - L.length) with q3 | q3
        · rw [q3] at hi; cases hi
        · rw [show id - L.length = 1 by omega] at hi; cases hi
      · rw [List.getElem?_eq_none (by simpa using q2)] at hi; cases hi
  have hS := hF.store
  refine ⟨G', tl, ?_⟩
  refine { env := ?_, dfr := hF.dfr, size := hF.size, store := ?_, gle := ?_, wle := hF.wle, fr := hF.fr, prov := ?_, stn := fun b x hb hx => hF.stn b x hb (by rw [hst] at hx; exact hx), len := ?_, low := ?_, clean := ?_, bl := hF.bl, g0 := hF.g0 }
  · intro t
    show VR G' w (if t = d1 then .ptr L.length 0 0 else if t = d2 then .ptr (L.length + 1) 0 0 else s.env t) _ ∧ TokT tl w0.heap.size w (if t = d1 then .ptr L.length 0 0 else if t = d2 then .ptr (L.length + 1) 0 0 else s.env t) _
    by_cases t1 : t = d1
    · rw [if_pos t1]
      have hx := (hF.env t).1
      rw [t1, h1] at hx
      rw [t1]
      refine ⟨?_, flatTok (by simp) (by simp)⟩
      generalize a.tmps.getD d1 Go.undef = c at hx
      cases hx with
      | ptr hl => exact .ptr (by rw [hloc, ← hm]; unfold swp; rw [if_pos rfl, hm]; exact hl)
    · by_cases t2 : t = d2
      · rw [if_neg t1, if_pos t2]
        have hx := (hF.env t).1
        rw [t2, h2] at hx
        rw [t2]
        refine ⟨?_, flatTok (by simp) (by simp)⟩
        generalize a.tmps.getD d2 Go.undef = c at hx
        cases hx with
        | ptr hl => exact .ptr (by rw [hloc, ← hm]; unfold swp; rw [if_neg (by omega), if_pos rfl, hm]; exact hl)
      · rw [if_neg t1, if_neg t2]
        exact ⟨hvr (hF.env t).1 (by rw [hm]; exact he t t1 t2), (hF.env t).2⟩
  · refine { cellsR := fun id cs ver hi => ?_, vers := fun id cs ver hi v' hv => ?_, news := fun id hid v' => ?_, toksR := fun t k ht => ?_, tnew := hS.tnew, tnews := hS.tnews, oo := ?_, tt := hS.tt, ot := ?_, lt := fun b x hx => hS.lt b x (by rw [hst] at hx; exact hx), tbl := hS.tbl, maps := ?_ }
    · rw [hget] at hi
      obtain ⟨b, o, arr, el, g1, g2, g3, g4⟩ := hS.cellsR _ cs ver hi
      exact ⟨b, o, arr, el, by rw [hloc]; exact g1, ⟨g2.at_, g2.fit⟩, fun j hj => hvr (g3 j hj) (norefs_iff.1 (hall _ cs ver hi) _ (List.getElem_mem hj)), fun x hx => g4 x (by rw [hst] at hx; exact hx)⟩
    · rw [hget] at hi; rw [hloc]; exact hS.vers _ cs ver hi v' hv
    · have hid2 : L.length + 2 ≤ id := by simpa using hid
      rw [hloc, swp_ge (by omega)]
      exact hS.news id (by rw [ho]; simpa using hid2) v'
    · obtain ⟨b, o, arr, el, g1, g2, g3, g4⟩ := hS.toksR t k ht
      exact ⟨b, o, arr, el, g1, ⟨g2.at_, g2.fit⟩, fun x hx q => g3 x hx (by rw [hst] at q; exact q), g4⟩
    · intro i i' cs cs' v v' b o o' q1 q2 q3 q4
      rw [hget] at q1 q2
      rw [hloc] at q3 q4
      exact swp_inj (hS.oo _ _ cs cs' v v' b o o' q1 q2 q3 q4)
    · intro i cs v t k b o o' q1 q2 q3 q4
      rw [hget] at q1
      rw [hloc] at q3
      exact hS.ot _ cs v t k b o o' q1 q2 q3 q4
    · exact ⟨fun id es hi => absurd (by rw [← hget]; exact hi) (hnom (swp m id) es), fun id es hi => absurd (by rw [← hget]; exact hi) (hnom (swp m id) es), fun i i' es es' b hi => absurd (by rw [← hget]; exact hi) (hnom (swp m i) es)⟩
  · refine ⟨fun id ver p hp => ?_, fun b o q => by rw [hst]; exact hF.gle.st b o q⟩
    rcases Nat.lt_or_ge id objs0.length with q | q
    · rw [hloc, swp_lt (by omega)]; exact hF.gle.loc id ver p hp
    · rw [hF.g0 id ver q] at hp; cases hp
  · rintro id b ⟨ver, o, q1, q2⟩
    rw [hloc] at q2
    have q3 : Has s.objs (swp m id) ver := by
      rcases q1 with ⟨cs, q1⟩ | ⟨rfl, es, q1⟩
      · rw [hget] at q1; exact .inl ⟨cs, q1⟩
      · rw [hget] at q1; exact .inr ⟨rfl, es, q1⟩
    rcases hF.prov (swp m id) b ⟨ver, o, q3, q2⟩ with q | q
    · exact .inl q
    · right
      have hlt : swp m id < objs0.length := by
        obtain ⟨v2, o2, ⟨cs, g⟩ | ⟨-, es, g⟩, -⟩ := q
        · rcases Nat.lt_or_ge (swp m id) objs0.length with z | z
          · exact z
          · rw [List.getElem?_eq_none z] at g; cases g
        · rcases Nat.lt_or_ge (swp m id) objs0.length with z | z
          · exact z
          · rw [List.getElem?_eq_none z] at g; cases g
      have hid : swp m id = id := by
        have h3 : swp m (swp m id) = swp m id := swp_lt (by omega)
        rw [swp_swp] at h3; exact h3.symm
      rw [hid] at q; exact q
  · show objs0.length ≤ (L ++ [AO.cells cB 0, AO.cells cA 0]).length
    simp; omega
  · intro id q1 q2
    show (L ++ [AO.cells cB 0, AO.cells cA 0])[id]? = _
    rw [hget, swp_lt (by omega)]
    exact hF.low id q1 q2
  · intro id x q1 q2
    have q3 := hF.bl
    rw [hget, swp_lt (by omega)] at q2
    exact hF.clean id x q1 q2
/-- A drawn region by what holds at each stage, whatever has run. -/
theorem any_wpJ {P : Program} {ops : Array Oper} {Q : Exit → Act → World → Prop} (J : Array Bool → Act → World → Prop) (hb : ∀ j o, ops[j]? = some o → ∀ e ∈ o.after, Region.binds .any e = true → e.on < j)
    (hs : ∀ listed i, listed.size = ops.size → Closed ops (fun k => listed.getD k false = true) → i ∈ Region.ready .any ops listed → ∀ a w, J listed a w → wpOp P ops Q i (J (listed.setIfInBounds i true)) a w)
    (hQ : ∀ listed a w, listed.size = ops.size → (∀ k, k < ops.size → listed.getD k false = true) → J listed a w → Q .normal a w) :
    ∀ (fuel : Nat) (listed : Array Bool) (a : Act) (w : World), listed.size = ops.size → Closed ops (fun k => listed.getD k false = true) → (rest ops listed).length ≤ fuel → J listed a w → wpAny P .any ops Q fuel listed a w := by
  have tf : ∀ {listed : Array Bool} {k : Nat}, listed.size = ops.size → k < ops.size → listed.getD k true = listed.getD k false := by
    intro listed k h1 h2
    rw [Array.getD_eq_getD_getElem?, Array.getD_eq_getD_getElem?, Array.getElem?_eq_getElem (by omega)]
    rfl
  have hmt : ∀ listed : Array Bool, listed.size = ops.size → Region.ready .any ops listed = [] → ∀ k, k < ops.size → listed.getD k false = true := by
    intro listed hsz hr
    have this : ∀ m, m < ops.size → (∀ k, k < m → listed.getD k false = true) → listed.getD m false = true := by
      intro m hm hall
      cases hl : listed.getD m false with
      | true => rfl
      | false =>
        have : m ∈ Region.ready .any ops listed := by
          rw [mem_ready]
          refine ⟨by rw [tf hsz hm]; exact hl, ops[m], Array.getElem?_eq_getElem hm, fun e he hbb => hall _ (hb m ops[m] (Array.getElem?_eq_getElem hm) e he hbb)⟩
        rw [hr] at this; cases this
    have all : ∀ m, m ≤ ops.size → ∀ k, k < m → listed.getD k false = true := by
      intro m
      induction m with
      | zero => intro _ k hk; omega
      | succ m ih =>
        intro hm k hk
        rcases Nat.lt_or_ge k m with q | q
        · exact ih (by omega) k q
        · have : k = m := by omega
          subst this
          exact this k (by omega) (ih (by omega))
    exact all _ (Nat.le_refl _)
  have hlt : ∀ {listed : Array Bool} {i : Nat}, i ∈ Region.ready .any ops listed → i < ops.size := fun hi => by
    obtain ⟨-, o, ho, -⟩ := mem_ready.1 hi
    rename_i i
    rcases Nat.lt_or_ge i ops.size with q | q
    · exact q
    · rw [Array.getElem?_eq_none q] at ho; cases ho
  intro fuel
  induction fuel with
  | zero =>
    intro listed a w hsz hcl hlen hJ
    have hnil : rest ops listed = [] := List.eq_nil_of_length_eq_zero (by omega)
    have hr : Region.ready .any ops listed = [] := by
      cases hr : Region.ready .any ops listed with
      | nil => rfl
      | cons i l =>
        have hm : i ∈ Region.ready .any ops listed := by rw [hr]; simp
        have : i ∈ rest ops listed := by
          unfold rest; rw [List.mem_filter, List.mem_range]
          exact ⟨hlt hm, by rw [(mem_ready.1 hm).1]; rfl⟩
        rw [hnil] at this; cases this
    exact ⟨hr, hQ listed a w hsz (hmt listed hsz hr) hJ⟩
  | succ fuel ih =>
    intro listed a w hsz hcl hlen hJ
    refine ⟨fun hr => hQ listed a w hsz (hmt listed hsz hr) hJ, fun i hi => ?_⟩
    obtain ⟨h0, o, ho, hall⟩ := mem_ready.1 hi
    have hil := hlt hi
    refine wpOp_mono (fun a' w' hJ' => ih _ a' w' (by simpa using hsz) ?_ ?_ hJ') (hs listed i hsz hcl hi a w hJ)
    · intro k o2 e hk ho2 he hbb
      by_cases hki : k = i
      · subst hki
        rw [ho] at ho2; cases ho2
        exact getD_set_true (hall e he hbb)
      · have hk2 : (listed.setIfInBounds i true).getD k false = true := hk
        rw [getD_set_ne false (fun q => hki q.symm)] at hk2
        exact getD_set_true (hcl k o2 e hk2 ho2 he hbb)
    · have hin : i < listed.size := by omega
      have hsp : rest ops listed = (List.range i).filter (fun k => !listed.getD k true) ++ i :: (((List.range (ops.size - i - 1)).map (fun x => i + (1 + x))).filter fun k => !listed.getD k true) := by
        unfold rest
        rw [range_split hil, List.filter_append, List.filter_cons, if_pos (by rw [h0]; rfl)]
      have hsp' : rest ops (listed.setIfInBounds i true) = (List.range i).filter (fun k => !listed.getD k true) ++ (((List.range (ops.size - i - 1)).map (fun x => i + (1 + x))).filter fun k => !listed.getD k true) := by
        unfold rest
        rw [range_split hil, List.filter_append, List.filter_cons, if_neg (by simp [Array.getD, hin])]
        congr 1
        · refine List.filter_congr fun k hk => ?_
          rw [List.mem_range] at hk
          rw [getD_set_ne true (by omega)]
        · refine List.filter_congr fun k hk => ?_
          rw [List.mem_map] at hk
          obtain ⟨x, _, rfl⟩ := hk
          rw [getD_set_ne true (by omega)]
      rw [hsp, List.length_append, List.length_cons] at hlen
      rw [hsp', List.length_append]; omega
/-- What a piece of code does at the machine, however it is shown. -/
structure SemC (P : Program) (A : Ann) (T : CallF) (f : FuncId) (base : Nat) (c : Code) (s : St) (r : Ex × St) : Prop where
  low : LowOk base s.objs s.low r.2.objs r.2.low
  run : ∀ (n : Nat) (G0 : Gh) (w0 : World) (objs0 : List AO) (a : Act) (w : World) (Q : Exit → Act → World → Prop), codeOk n c = true → In n G0 w0 objs0 base s a w → (∀ a' w', In n G0 w0 objs0 base r.2 a' w' → Q r.1.out a' w') → c.wp P Q a w
section
variable {P : Program} {A : Ann} {T : CallF} {f : FuncId} {base : Nat} {c x y : Code} {s s1 s' : St} {e : Ex} {r : Ex × St} {Q : Ex → St → Prop}
theorem SemC.of (hm : P.follows .mixedOrders = true) (hc : CallOk P T) (hd : drawsOk A f c = true) (h : EvW P A T f base c s r) : SemC P A T f base c s r :=
  ⟨(h.ok hm hc).1, fun n G0 w0 objs0 a w Q h1 h2 h3 => (h.ok hm hc).2.1 n G0 w0 objs0 a w Q h1 hd h2 h3⟩
theorem SemC.seq (h : SemC P A T f base x s (.norm, s1)) (k : SemC P A T f base y s1 r) : SemC P A T f base (.seq x y) s r :=
  ⟨h.low.trans k.low, fun n G0 w0 objs0 a w Q h1 h2 h3 => by
    simp only [codeOk, Bool.and_eq_true] at h1
    exact wp_seq (h.run n G0 w0 objs0 a w _ h1.1 h2 fun a' w' hF => k.run n G0 w0 objs0 a' w' Q h1.2 hF h3)⟩
theorem SemC.seq_out (h : SemC P A T f base x s (e, s1)) (he : e ≠ .norm) : SemC P A T f base (.seq x y) s (e, s1) :=
  ⟨h.low, fun n G0 w0 objs0 a w Q h1 h2 h3 => by
    simp only [codeOk, Bool.and_eq_true] at h1
    refine wp_seq (h.run n G0 w0 objs0 a w _ h1.1 h2 fun a' w' hF => ?_)
    cases e with
    | norm => exact absurd rfl he
    | ret => exact h3 a' w' hF
    | exit id => exact h3 a' w' hF⟩
def ToS (P : Program) (A : Ann) (T : CallF) (f : FuncId) (base : Nat) (c : Code) (s : St) (Q : Ex → St → Prop) : Prop := ∃ e s', SemC P A T f base c s (e, s') ∧ Q e s'
theorem ToS.of (hm : P.follows .mixedOrders = true) (hc : CallOk P T) (hd : drawsOk A f c = true) (h : To P A T f base c s Q) : ToS P A T f base c s Q := by
  obtain ⟨e, s', h, q⟩ := ToW.of h
  exact ⟨e, s', .of hm hc hd h, q⟩
theorem ToS.cut (h : SemC P A T f base c s r) (hq : Q r.1 r.2) : ToS P A T f base c s Q := ⟨r.1, r.2, h, hq⟩
theorem ToS.seq (h : ToS P A T f base x s (fun e s1 => e.andThen (ToS P A T f base y s1 Q) (Q e s1))) : ToS P A T f base (.seq x y) s Q := by
  obtain ⟨e, s1, h1, h2⟩ := h
  cases e with
  | norm => obtain ⟨e, s', k1, k2⟩ := h2; exact ⟨e, s', .seq h1 k1, k2⟩
  | ret => exact ⟨_, _, .seq_out h1 (by simp), h2⟩
  | exit id => exact ⟨_, _, .seq_out h1 (by simp), h2⟩
def EndsS (P : Program) (A : Ann) (T : CallF) (f : FuncId) (fn : Func) (args : List V) (objs : List AO) (r : V × Option (List AO × Nat)) : Prop :=
  ∃ c e s, fn.body = some c ∧ (e = .norm ∨ e = .ret) ∧ SemC P A T f (baseOf A f objs.length) c ⟨entryEnv args, [], objs, objs.length⟩ (e, s) ∧ finish P A f fn objs s = some r
theorem EndsS.go {fn : Func} {args : List V} {objs : List AO} {r : V × Option (List AO × Nat)} (rs : List ResultVar) (hb : fn.body = some c) (hr : fn.results.toList = rs) (h : ToS P A T f objs.length c ⟨entryEnv args, [], objs, objs.length⟩ (FinQ P A f rs objs r)) (hk : A.keep f = false := by rfl) : EndsS P A T f fn args objs r := by
  obtain ⟨e, s, h1, h2⟩ := h
  refine ⟨c, e, s, hb, h2.1, by rw [baseOf_own hk]; exact h1, ?_⟩
  subst hr
  exact h2.2
theorem fun_okS {fn : Func} {c : Code} {args : List V} {objs : List AO} {e : Ex} {s : St} {v : V} {r : Option (List AO × Nat)} (hP : Fit P) (hfn : P.funcs[f]? = some fn) (hb : fn.body = some c)
    (he : e = .norm ∨ e = .ret) (hok2 : SemC P A T f (baseOf A f objs.length) c ⟨entryEnv args, [], objs, objs.length⟩ (e, s)) (hfin : finish P A f fn objs s = some (v, r)) :
    (∀ objs' low', r = some (objs', low') → objs.length ≤ objs'.length ∧ ∀ id, id < low' → id < objs.length → objs'[id]? = objs[id]?) ∧
    ∀ (G : Gh) (w : World) (cargs : Array Value), Store G noTl w.heap.size [] objs w → AR G w args cargs.toList → Entered P f cargs w (fun c w' => ∃ G', Back G objs w v ((r.map (·.1)).getD objs) c w' G') := by
  obtain ⟨hok, hname⟩ := hP.code f fn c hfn hb
  have hcf : ∀ cargs w, (callFunc f cargs).run P w = .ok (.enter f cargs) w := by
    intro cargs w
    have h1 : (fn.name = "runtime.NumGoroutine") = False := by simpa using hname
    simp [callFunc, hfn, h1, hb]
  refine ⟨?_, fun G w cargs hs ha => .inl ⟨hcf cargs w, calls_of_marks hfn hb he (fun Q hQ => hok2.run _ _ _ _ _ w _ hok (entry_in hs ha) hQ) fun a' w' hF' => ?_⟩⟩
  · unfold finish at hfin
    split at hfin
    · cases hfin
    intro objs' low' he
    have hl := hok2.low
    have hlen : objs.length ≤ s.objs.length := hl.len
    split at hfin
    · cases hfin; cases he
      exact ⟨hlen, fun id h1 h2 => hl.same id h1 h2⟩
    split at hfin
    · obtain ⟨us, _, hfin⟩ := Option.map_eq_some_iff.1 hfin
      cases hfin
      split at he
      · cases he
        exact ⟨by rw [List.length_take, Nat.min_eq_left hlen]; exact Nat.le_refl _, fun id h1 h2 => by rw [List.getElem?_take_of_lt h2]; exact hl.same id h1 h2⟩
      · cases he
    split at hfin
    case h_2 => cases hfin
    cases hfin
    split at he
    · cases he
      exact ⟨by rw [List.length_take, Nat.min_eq_left hlen]; exact Nat.le_refl _, fun id h1 h2 => by rw [List.getElem?_take_of_lt h2]; exact hl.same id h1 h2⟩
    · cases he
  · obtain ⟨G', tl', hF'⟩ := hF'
    obtain ⟨bs, b1, b2, b3⟩ := hF'.dfr
    obtain ⟨cv, G2, q1, q2⟩ := finish_ok (P := P) (A := A) (f := f) (fn := fn) (hF'.shut bs b2 b3) rfl hs hfin
    exact ⟨bs, b1, b2, fun b hb => (b3 b hb).2, cv, q1, G2, q2⟩
theorem con_ofS {fn : Func} {F : Spec} (hP : Fit P) (hT : CallOk P T) (hfn : P.funcs[f]? = some fn) (h : ∀ args objs r, F args objs = some r → EndsS P A T f fn args objs r) : CallOk P (withF T f F) := by
  intro g args objs v r hr
  unfold withF at hr
  split at hr
  · rename_i hg; subst hg
    obtain ⟨c, e, s, h0, h1, h2, h3⟩ := h args objs _ hr
    exact fun_okS hP hfn h0 h1 h2 h3
  · exact hT g args objs v r hr
/-! steps of a drawn region, one by one -/
variable {ops : Array Oper} {i d : Nat} {o : Oper}
theorem step_load {t : TypeId} {x : Nat} {v : V} (ho : ops[i]? = some o) (h1 : o.dst = some d) (h2 : o.op = .load t (.tmp x)) (h3 : o.guard = none) (hA : A = annOf [] [] [] false []) (hl : loadV P t s.objs (s.env x) = some v) :
    stepOp P A T f base ops i s = some (s.put (some d) (v, s.toks, s.objs, s.low)) := by
  obtain ⟨dst, op, ty, ps, af, g⟩ := o
  subst h1 h2 h3 hA
  unfold stepOp
  simp only [ho]
  rw [op_load]
  simp [hl]
theorem step_call1 {g x : Nat} {ats : Array TypeId} {v : V} (ho : ops[i]? = some o) (h1 : o.dst = some d) (h2 : o.op = .call ⟨.value (.func g), #[.tmp x], ats⟩) (h3 : o.guard = none) (hA : A = annOf [] [] [] false []) (hv : ∀ ws, v ≠ .tup ws) (hl : T g [demote (s.env x)] s.objs = some (v, none)) :
    stepOp P A T f base ops i s = some (s.put (some d) (demote v, s.toks, s.objs, s.low)) := by
  obtain ⟨dst, op, ty, ps, af, gg⟩ := o
  subst h1 h2 h3 hA
  unfold stepOp
  simp only [ho]
  rw [op_call]
  cases v <;> first | exact absurd rfl (hv _) | simp [hl]
theorem step_alloc {t : TypeId} {z : List V} (ho : ops[i]? = some o) (h1 : o.dst = some d) (h2 : o.op = .alloc t) (h3 : o.guard = none) (hA : A = annOf [] [] [] false []) (hl : zeroV P t = some z) :
    stepOp P A T f base ops i s = some (s.put (some d) (.ptr s.objs.length 0 0, s.toks, s.objs ++ [.cells z 0], s.low)) := by
  obtain ⟨dst, op, ty, ps, af, g⟩ := o
  subst h1 h2 h3 hA
  unfold stepOp
  simp only [ho]
  rw [op_alloc]
  simp [hl]
theorem step_store {t : TypeId} {x y : Nat} {r : V × List AO × Nat} (ho : ops[i]? = some o) (h1 : o.dst = none) (h2 : o.op = .store t (.tmp x) (.tmp y)) (h3 : o.guard = none) (hA : A = annOf [] [] [] false []) (hl : storeO P t base s.objs s.low (s.env x) (cellsOf (demote (s.env y))) = some r) :
    stepOp P A T f base ops i s = some (s.put none (r.1, s.toks, r.2.1, r.2.2)) := by
  obtain ⟨dst, op, ty, ps, af, g⟩ := o
  subst h1 h2 h3 hA
  unfold stepOp
  simp only [ho]
  rw [op_store]
  simp only [opd_tmp]
  rw [hl]; rfl
end
end Go.Ab
