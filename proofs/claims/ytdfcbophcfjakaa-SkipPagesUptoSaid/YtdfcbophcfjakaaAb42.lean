import Derived.Test.YtdfcbophcfjakaaAb41
set_option linter.unusedSimpArgs false
set_option linter.unusedVariables false
set_option linter.unusedSectionVars false
/- A drawn region by its final values: every operation answers the same, whatever ran ahead of it. -/
namespace Go.Ab
/-- The slots' final values. -/
def finE : List Oper → List V → (Nat → V) → Nat → V
  | o :: ops, v :: vs, e => finE ops vs (put e o.dst v)
  | _, _, e => e
/-- A slot is written once, and what an operation looks at is final when it may run. -/
def freeOk (ops : Array Oper) : Bool :=
  let bef := Region.before ops
  (List.range ops.size).all fun j => match ops[j]? with
    | none => false
    | some b => (b.after.all fun e => !Region.binds .any e || decide (e.on < j)) && (List.range ops.size).all fun i => match ops[i]? with
      | none => false
      | some a => match a.dst with
        | none => true
        | some d => (!(looks ops b).contains d || (bef.getD j 0).testBit i) && (decide (i = j) || b.dst != some d)
theorem freeOk_inv {ops : Array Oper} (h : freeOk ops = true) : ∀ j b, ops[j]? = some b → (∀ e ∈ b.after, Region.binds .any e = true → e.on < j) ∧ ∀ i a d, ops[i]? = some a → a.dst = some d → (d ∈ looks ops b → ((Region.before ops).getD j 0).testBit i = true) ∧ (i = j ∨ b.dst ≠ some d) := by
  unfold freeOk at h
  simp only [List.all_eq_true, List.mem_range] at h
  have lt : ∀ {j : Nat} {b : Oper}, ops[j]? = some b → j < ops.size := fun {j b} hj => by
    rcases Nat.lt_or_ge j ops.size with q | q
    · exact q
    · rw [Array.getElem?_eq_none q] at hj; cases hj
  refine fun j b hj => ?_
  have h2 := h j (lt hj)
  rw [hj] at h2
  simp only [Bool.and_eq_true, List.all_eq_true, List.mem_range] at h2
  refine ⟨fun e he hbd => ?_, fun i a d hi hd => ?_⟩
  · have := Array.all_eq_true_iff_forall_mem.1 h2.1 e he
    rw [hbd] at this
    simpa using this
  · have := h2.2 i (lt hi)
    rw [hi] at this
    simp only [hd, Bool.and_eq_true, Bool.or_eq_true, decide_eq_true_eq] at this
    refine ⟨fun hm => ?_, this.2.imp id (fun q => by simpa using q)⟩
    rcases this.1 with q | q
    · rw [Bool.not_eq_true'] at q
      exact absurd (List.contains_iff_mem.2 hm) (by rw [q]; simp)
    · exact q
/-- What is set when these have run. -/
def envL (ops : Array Oper) (fin env0 : Nat → V) (L : Nat → Bool) : Nat → V := fun d => if (List.range ops.size).any (fun i => L i && decide ((ops[i]?).bind (·.dst) = some d)) = true then fin d else env0 d
def onL (L : Nat → Bool) (i : Nat) : Nat → Bool := fun k => if k = i then true else L k
abbrev Cmp := (Nat → Bool) → List Nat × List AO × Nat
section
variable {P : Program} {A : Ann} {T : CallF} {f : FuncId} {bb : Nat} {ops : Array Oper} {env0 fin : Nat → V} {comp : Cmp}
/-- Each operation, in its place. -/
def FreeH (P : Program) (A : Ann) (T : CallF) (f : FuncId) (bb : Nat) (ops : Array Oper) (fin : Nat → V) (comp : Cmp) : List Oper → Nat → Prop
  | [], _ => True
  | o :: l, i => (∀ L : Nat → Bool, L i = false → (∀ j, ((Region.before ops).getD i 0).testBit j = true → L j = true) → (∀ j, ((Region.before ops).getD j 0).testBit i = true → L j = false) →
      ∃ v, opR P A T f bb ops o ⟨fin, (comp L).1, (comp L).2.1, (comp L).2.2⟩ = some (v, comp (onL L i)) ∧ ∀ d, o.dst = some d → v = fin d) ∧ FreeH P A T f bb ops fin comp l (i + 1)
theorem FreeH.get0 : ∀ {l : List Oper} {i k : Nat} {o : Oper}, FreeH P A T f bb ops fin comp l i → l[k]? = some o → ∀ L : Nat → Bool, L (i + k) = false → (∀ j, ((Region.before ops).getD (i + k) 0).testBit j = true → L j = true) → (∀ j, ((Region.before ops).getD j 0).testBit (i + k) = true → L j = false) →
      ∃ v, opR P A T f bb ops o ⟨fin, (comp L).1, (comp L).2.1, (comp L).2.2⟩ = some (v, comp (onL L (i + k))) ∧ ∀ d, o.dst = some d → v = fin d
  | [], i, k, o, _, h => by simp at h
  | a :: l, i, 0, o, H, h => by cases h; exact H.1
  | a :: l, i, k + 1, o, H, h => by
    have := FreeH.get0 (i := i + 1) (k := k) H.2 h
    rwa [show i + 1 + k = i + (k + 1) by omega] at this
theorem FreeH.get {l : List Oper} {i k : Nat} {o : Oper} (H : FreeH P A T f bb ops fin comp l i) (h : l[k]? = some o) (e : Nat → V) (L : Nat → Bool) (he : ∀ x ∈ looks ops o, e x = fin x) (h1 : L (i + k) = false) (h2 : ∀ j, ((Region.before ops).getD (i + k) 0).testBit j = true → L j = true) (h3 : ∀ j, ((Region.before ops).getD j 0).testBit (i + k) = true → L j = false) :
      ∃ v, opR P A T f bb ops o ⟨e, (comp L).1, (comp L).2.1, (comp L).2.2⟩ = some (v, comp (onL L (i + k))) ∧ ∀ d, o.dst = some d → v = fin d := by
  obtain ⟨v, q1, q2⟩ := H.get0 h L h1 h2 h3
  refine ⟨v, ?_, q2⟩
  obtain ⟨f1, f2, f3⟩ := opR_foot (s' := ⟨e, (comp L).1, (comp L).2.1, (comp L).2.2⟩) q1 (fun d hd => (he d hd).symm) (fun _ => rfl) (fun _ => rfl) (fun _ => rfl)
  rw [f3]
  obtain ⟨c1, c2, c3⟩ : ∃ a b c, comp (onL L (i + k)) = (a, b, c) := ⟨_, _, _, rfl⟩
  have e1 : (if (kindOf A f o).toks = true then (comp (onL L (i + k))).1 else (comp L).1) = (comp (onL L (i + k))).1 := by
    split
    · rfl
    · rename_i hk; exact (f1 (by simpa using hk)).symm
  have e2 : (if (kindOf A f o).acts = true then (comp (onL L (i + k))).2.1 else (comp L).2.1) = (comp (onL L (i + k))).2.1 := by
    split
    · rfl
    · rename_i hk; exact (congrArg Prod.fst (f2 (by simpa using hk))).symm
  have e3 : (if (kindOf A f o).acts = true then (comp (onL L (i + k))).2.2 else (comp L).2.2) = (comp (onL L (i + k))).2.2 := by
    split
    · rfl
    · rename_i hk; exact (congrArg Prod.snd (f2 (by simpa using hk))).symm
  show some (v, _, _, _) = _
  rw [e1, e2, e3]
theorem finE_ne {x : Nat} : ∀ {ops : List Oper} {vs : List V} {e : Nat → V}, (∀ o ∈ ops, o.dst ≠ some x) → finE ops vs e x = e x
  | [], vs, e, _ => by cases vs <;> rfl
  | o :: ops, [], e, _ => rfl
  | o :: ops, v :: vs, e, h => by
    show finE ops vs (put e o.dst v) x = e x
    rw [finE_ne fun o' ho => h o' (by simp [ho])]
    exact put_ne (h o (by simp))
theorem envL_ext {L L' : Nat → Bool} (h : ∀ i, i < ops.size → L i = L' i) : envL ops fin env0 L = envL ops fin env0 L' := by
  funext d
  unfold envL
  have : ((List.range ops.size).any fun i => L i && decide ((ops[i]?).bind (·.dst) = some d)) = (List.range ops.size).any fun i => L' i && decide ((ops[i]?).bind (·.dst) = some d) := by
    refine Bool.eq_iff_iff.2 ?_
    rw [List.any_eq_true, List.any_eq_true]
    exact ⟨fun ⟨i, h1, h2⟩ => ⟨i, h1, by rw [← h i (List.mem_range.1 h1)]; exact h2⟩, fun ⟨i, h1, h2⟩ => ⟨i, h1, by rw [h i (List.mem_range.1 h1)]; exact h2⟩⟩
  rw [this]
theorem envL_on {L : Nat → Bool} {i : Nat} {o : Oper} (hi : ops[i]? = some o) {v : V} (hv : ∀ d, o.dst = some d → v = fin d) : put (envL ops fin env0 L) o.dst v = envL ops fin env0 (onL L i) := by
  have hlt : i < ops.size := by
    rcases Nat.lt_or_ge i ops.size with q | q
    · exact q
    · rw [Array.getElem?_eq_none q] at hi; cases hi
  have other : ∀ x, o.dst ≠ some x → envL ops fin env0 L x = envL ops fin env0 (onL L i) x := by
    intro x hx
    unfold envL
    have : ((List.range ops.size).any fun k => L k && decide ((ops[k]?).bind (·.dst) = some x)) = (List.range ops.size).any fun k => onL L i k && decide ((ops[k]?).bind (·.dst) = some x) := by
      refine Bool.eq_iff_iff.2 ?_
      rw [List.any_eq_true, List.any_eq_true]
      constructor
      · rintro ⟨k, h1, h2⟩
        rw [Bool.and_eq_true] at h2
        exact ⟨k, h1, by unfold onL; split <;> simp [h2.1, h2.2]⟩
      · rintro ⟨k, h1, h2⟩
        rw [Bool.and_eq_true, decide_eq_true_eq] at h2
        refine ⟨k, h1, ?_⟩
        have hk : k ≠ i := by
          rintro rfl
          rw [hi] at h2
          exact hx h2.2
        unfold onL at h2
        rw [if_neg hk] at h2
        rw [h2.1]; simpa using h2.2
    rw [this]
  cases hd : o.dst with
  | none =>
    funext x
    show envL ops fin env0 L x = _
    exact other x (by rw [hd]; simp)
  | some d =>
    funext x
    by_cases hx : d = x
    · subst hx
      show upd _ d v d = _
      unfold upd envL
      rw [if_pos rfl, if_pos, hv d hd]
      rw [List.any_eq_true]
      exact ⟨i, List.mem_range.2 hlt, by unfold onL; simp [hi, hd]⟩
    · rw [put_ne (by intro q; cases q; exact hx rfl)]
      exact other x (by rw [hd]; intro q; cases q; exact hx rfl)
/-- One step, from any set that is closed. -/
theorem free_step (hf : freeOk ops = true) (H : FreeH P A T f bb ops fin comp ops.toList 0) (h0 : ∀ x, (∀ o ∈ ops.toList, o.dst ≠ some x) → fin x = env0 x) {L : Nat → Bool} {i : Nat} {o : Oper} (hi : ops[i]? = some o) (hL : L i = false) (hp : ∀ j, ((Region.before ops).getD i 0).testBit j = true → L j = true) (hq : ∀ j, ((Region.before ops).getD j 0).testBit i = true → L j = false) :
    stepOp P A T f bb ops i ⟨envL ops fin env0 L, (comp L).1, (comp L).2.1, (comp L).2.2⟩ = some ⟨envL ops fin env0 (onL L i), (comp (onL L i)).1, (comp (onL L i)).2.1, (comp (onL L i)).2.2⟩ := by
  have hlt : ∀ {j : Nat} {b : Oper}, ops[j]? = some b → j < ops.size := fun {j b} hj => by
    rcases Nat.lt_or_ge j ops.size with q | q
    · exact q
    · rw [Array.getElem?_eq_none q] at hj; cases hj
  have hl : ops.toList[i]? = some o := by simpa using hi
  obtain ⟨v, h1, h2⟩ := H.get (k := i) hl (envL ops fin env0 L) L (fun x hx => by
    unfold envL
    by_cases hany : ((List.range ops.size).any fun k => L k && decide ((ops[k]?).bind (·.dst) = some x)) = true
    · rw [if_pos hany]
    · rw [if_neg hany]
      refine (h0 x fun a ha hd => hany ?_).symm
      obtain ⟨k, hk, rfl⟩ := List.getElem_of_mem ha
      have hk2 : ops[k]? = some (ops.toList[k]) := by
        have : k < ops.size := by simpa using hk
        simp [Array.getElem?_eq_getElem this]
      rw [List.any_eq_true]
      refine ⟨k, List.mem_range.2 (hlt hk2), ?_⟩
      have := ((freeOk_inv hf i o hi).2 k _ x hk2 hd).1 hx
      rw [hp k this, hk2]
      simp only [Bool.true_and, decide_eq_true_eq, Option.bind_some]
      exact hd) (by simpa using hL) (by simpa using hp) (by simpa using hq)
  rw [Nat.zero_add] at h1
  unfold stepOp
  rw [hi]
  simp only [h1, Option.map_some, St.put, envL_on hi h2]
/-- The canonical order. -/
theorem free_run (hf : freeOk ops = true) (H : FreeH P A T f bb ops fin comp ops.toList 0) (h0 : ∀ x, (∀ o ∈ ops.toList, o.dst ≠ some x) → fin x = env0 x) : ∀ k i, i + k = ops.size → evalOps P A T f bb ops (List.range' i k) ⟨envL ops fin env0 (fun j => decide (j < i)), (comp fun j => decide (j < i)).1, (comp fun j => decide (j < i)).2.1, (comp fun j => decide (j < i)).2.2⟩ =
    some ⟨envL ops fin env0 (fun j => decide (j < ops.size)), (comp fun j => decide (j < ops.size)).1, (comp fun j => decide (j < ops.size)).2.1, (comp fun j => decide (j < ops.size)).2.2⟩ := by
  intro k
  induction k with
  | zero => intro i hi; rw [Nat.add_zero] at hi; subst hi; rfl
  | succ k ih =>
    intro i hi
    have hil : i < ops.size := by omega
    have hio : ops[i]? = some ops[i] := Array.getElem?_eq_getElem hil
    have hb := fun j b hj => (freeOk_inv hf j b hj).1
    have hbef : ∀ j b m, ops[j]? = some b → ((Region.before ops).getD j 0).testBit m = true → m < j := fun j b m hj hm =>
      before_closed ops j b m hj hm (fun k => k < j) (fun k o e hk ho he hbd => Nat.lt_trans (hb k o ho e he hbd) hk) (fun e he hbd => hb j b hj e he hbd)
    have hon : onL (fun j => decide (j < i)) i = fun j => decide (j < i + 1) := by
      funext j
      unfold onL
      by_cases q : j = i
      · rw [if_pos q]; simp [q]
      · rw [if_neg q]; exact decide_eq_decide.2 (by omega)
    have hs := free_step (env0 := env0) hf H h0 (L := fun j => decide (j < i)) hio (by simp) (fun j hj => by have := hbef i _ j hio hj; simpa using this) (fun j hj => by
      rcases Nat.lt_or_ge j ops.size with q | q
      · have := hbef j _ i (Array.getElem?_eq_getElem q) hj
        simp; omega
      · simp; omega)
    rw [hon] at hs
    show (stepOp P A T f bb ops i _).bind (evalOps P A T f bb ops (List.range' (i + 1) k)) = _
    rw [hs]
    exact ih (i + 1) (by omega)
theorem free_sem {id : Nat} (hm : P.follows .mixedOrders = true) (hc : CallOk P T) (hf : freeOk ops = true) {s s' : St} {vs : List V} (hfin : fin = finE ops.toList vs s.env) (hs : comp (fun _ => false) = (s.toks, s.objs, s.low)) (H : FreeH P A T f bb ops fin comp ops.toList 0)
    (he : s'.env = envL ops fin s.env (fun j => decide (j < ops.size))) (ht : comp (fun j => decide (j < ops.size)) = (s'.toks, s'.objs, s'.low)) : SemC P A T f bb (.region id ops true) s (.norm, s') := by
  have h0 : ∀ x, (∀ o ∈ ops.toList, o.dst ≠ some x) → fin x = s.env x := fun x hx => by rw [hfin]; exact finE_ne hx
  have hrun := free_run (env0 := s.env) hf H h0 ops.size 0 (by omega)
  have e0 : envL ops fin s.env (fun j => decide (j < 0)) = s.env := by
    funext d; unfold envL; rw [if_neg (by simp)]
  have c0 : (fun j : Nat => decide (j < 0)) = fun _ => false := by funext j; simp
  rw [e0, c0, hs] at hrun
  rw [← List.range_eq_range', ht, ← he] at hrun
  refine ⟨ops_low hc _ _ _ hrun, fun n G0 w0 objs0 a w Q hco hF hQ => ?_⟩
  have hd : dstsOk n ops = true := hco
  refine wp_region_draw fun t => ?_
  simp only [Region.schedule, hm, Bool.true_or, if_true]
  obtain ⟨G, tl, hF⟩ := hF
  have hb := fun j b hj => (freeOk_inv hf j b hj).1
  refine wpAny_sound ops.size t _ a _ (any_wpJ (fun listed a w => In n G0 w0 objs0 bb ⟨envL ops fin s.env (fun j => listed.getD j false), (comp fun j => listed.getD j false).1, (comp fun j => listed.getD j false).2.1, (comp fun j => listed.getD j false).2.2⟩ a w) hb ?_ ?_ ops.size _ a _ (by simp) ?_ (by rw [rest_all]; simp) ?_)
  · intro listed i hsz hcl hi a w hF
    obtain ⟨h1, o, ho, hall⟩ := mem_ready.1 hi
    have hil : i < ops.size := by
      rcases Nat.lt_or_ge i ops.size with q | q
      · exact q
      · rw [Array.getElem?_eq_none q] at ho; cases ho
    have hLi : listed.getD i false = false := by
      rw [Array.getD_eq_getD_getElem?, Array.getElem?_eq_getElem (by omega)] at h1 ⊢
      exact h1
    have hst := free_step (env0 := s.env) hf H h0 (L := fun j => listed.getD j false) ho hLi
      (fun j hj => before_closed ops i o j ho hj (fun k => listed.getD k false = true) hcl (fun e he hbd => hall e he hbd))
      (fun j hj => by
        cases hl : listed.getD j false with
        | false => rfl
        | true =>
          exfalso
          have hjl : j < ops.size := by
            rcases Nat.lt_or_ge j ops.size with q | q
            · exact q
            · rw [Array.getD_eq_getD_getElem?, Array.getElem?_eq_none (by omega)] at hl; cases hl
          have := before_closed ops j _ i (Array.getElem?_eq_getElem hjl) hj (fun k => listed.getD k false = true) hcl (fun e he hbd => hcl j _ e hl (Array.getElem?_eq_getElem hjl) he hbd)
          rw [hLi] at this; cases this)
    refine step_wp hc hd hF hst fun a' w' hF' => ?_
    have e : (fun j => (listed.setIfInBounds i true).getD j false) = onL (fun j => listed.getD j false) i := by
      funext j
      unfold onL
      by_cases q : j = i
      · subst q
        rw [if_pos rfl]
        simp [Array.getD, hsz, hil]
      · rw [if_neg q]
        exact getD_set_ne false (fun z => q z.symm)
    rw [e]; exact hF'
  · intro listed a w hsz hall hF
    have e : (fun j => listed.getD j false) = fun j => decide (j < ops.size) := by
      funext j
      rcases Nat.lt_or_ge j ops.size with q | q
      · rw [hall j q]; simp [q]
      · rw [Array.getD_eq_getD_getElem?, Array.getElem?_eq_none (by omega)]; simp; omega
    rw [e, ht] at hF
    rw [← he] at hF
    exact hQ a w hF
  · intro k o e hk ho he hbd
    have hkl : k < ops.size := by
      rcases Nat.lt_or_ge k ops.size with q | q
      · exact q
      · rw [Array.getElem?_eq_none q] at ho; cases ho
    simp [Array.getD, hkl] at hk
  · have e : (fun j => (Array.replicate ops.size false).getD j false) = fun _ => false := by
      funext j
      rw [Array.getD_eq_getD_getElem?]
      simp only [Array.getElem?_replicate]
      split <;> rfl
    rw [e, hs]
    have e1 : envL ops fin s.env (fun _ => false) = s.env := by
      funext d; unfold envL; rw [if_neg (by simp)]
    rw [e1]
    exact ⟨G, tl, hF.drawn _⟩
theorem envL_all (h0 : ∀ x, (∀ o ∈ ops.toList, o.dst ≠ some x) → fin x = env0 x) : envL ops fin env0 (fun j => decide (j < ops.size)) = fin := by
  funext d
  unfold envL
  split
  · rfl
  · rename_i hn
    refine (h0 d fun o ho hd => hn ?_).symm
    obtain ⟨k, hk, rfl⟩ := List.getElem_of_mem ho
    have hk' : k < ops.size := by simpa using hk
    rw [List.any_eq_true]
    refine ⟨k, List.mem_range.2 hk', ?_⟩
    have hk2 : ops[k]? = some (ops.toList[k]) := by simp [Array.getElem?_eq_getElem hk']
    rw [hk2]
    simp only [hk', decide_true, Bool.true_and, decide_eq_true_eq, Option.bind_some]
    exact hd
/-- The same, by the slots alone. -/
def finD : List (Option Nat) → List V → (Nat → V) → Nat → V
  | d :: ds, v :: vs, e => finD ds vs (put e d v)
  | _, _, e => e
theorem finE_D : ∀ (l : List Oper) (vs : List V) (e : Nat → V), finE l vs e = finD (l.map (·.dst)) vs e
  | [], vs, e => by cases vs <;> rfl
  | o :: l, [], e => rfl
  | o :: l, v :: vs, e => finE_D l vs _
def opD (P : Program) (A : Ann) (T : CallF) (f : FuncId) (bb : Nat) (ds : List (Option Nat)) (o : Oper) (s : St) : Option (V × List Nat × List AO × Nat) := match o.guard with
  | none => evalOp P A T f bb o s
  | some (j, want) => guardR (((ds[j]?).bind id).map s.env) want s (evalOp P A T f bb o s)
theorem opD_none {d : Option Nat} {op : Op} {ty : TypeId} {ps : String} {af : Array Edge} {ds : List (Option Nat)} {s : St} : opD P A T f bb ds ⟨d, op, ty, ps, af, none⟩ s = opR P A T f bb #[] ⟨d, op, ty, ps, af, none⟩ s := rfl
theorem opD_some {d : Option Nat} {op : Op} {ty : TypeId} {ps : String} {af : Array Edge} {j : Nat} {want : Bool} {ds : List (Option Nat)} {s : St} : opD P A T f bb ds ⟨d, op, ty, ps, af, some (j, want)⟩ s = guardR (((ds[j]?).bind id).map s.env) want s (opR P A T f bb #[] ⟨d, op, ty, ps, af, none⟩ s) := rfl
theorem opD_eq {ds : List (Option Nat)} (hds : ops.toList.map (·.dst) = ds) (o : Oper) (s : St) : opD P A T f bb ds o s = opR P A T f bb ops o s := by
  unfold opD opR
  cases hg : o.guard with
  | none => rfl
  | some p =>
    obtain ⟨j, want⟩ := p
    have e : ((ds[j]?).bind id).map s.env = ((ops[j]?).bind (·.dst)).map s.env := by
      rw [← hds, List.getElem?_map, ← Array.getElem?_toList]
      cases ops.toList[j]? <;> rfl
    simp only [e]
    unfold guardR
    rfl
def DstIs (fin : Nat → V) (d : Option Nat) (v : V) : Prop := match d with | some d => v = fin d | none => True
theorem DstIs.all {d : Option Nat} {v : V} (h : DstIs fin d v) : ∀ k, d = some k → v = fin k := fun k e => by subst e; exact h
theorem dstIs_some {d : Nat} {v : V} : DstIs fin (some d) v = (v = fin d) := rfl
theorem dstIs_none {v : V} : DstIs fin none v = True := rfl
/-- Each operation, in its place, by the slots alone. -/
def FreeD (P : Program) (A : Ann) (T : CallF) (f : FuncId) (bb : Nat) (bef : Array Nat) (ds : List (Option Nat)) (fin : Nat → V) (comp : Cmp) : List Oper → Nat → Prop
  | [], _ => True
  | o :: l, i => (∀ L : Nat → Bool, L i = false → (∀ j, (bef.getD i 0).testBit j = true → L j = true) → (∀ j, (bef.getD j 0).testBit i = true → L j = false) →
      ∃ v, opD P A T f bb ds o ⟨fin, (comp L).1, (comp L).2.1, (comp L).2.2⟩ = some (v, comp (onL L i)) ∧ DstIs fin o.dst v) ∧ FreeD P A T f bb bef ds fin comp l (i + 1)
theorem FreeD.H {ds : List (Option Nat)} (hds : ops.toList.map (·.dst) = ds) : ∀ {l : List Oper} {i : Nat}, FreeD P A T f bb (Region.before ops) ds fin comp l i → FreeH P A T f bb ops fin comp l i
  | [], _, _ => trivial
  | o :: l, i, h => ⟨fun L h1 h2 h3 => by
      obtain ⟨v, q1, q2⟩ := h.1 L h1 h2 h3
      exact ⟨v, by rw [← opD_eq hds]; exact q1, q2.all⟩, FreeD.H hds h.2⟩
/-- A drawn region, by its final values. -/
theorem ToS.free {id : Nat} {s : St} {y : Code} {Q : Ex → St → Prop} {ds : List (Option Nat)} {bef : Array Nat} {l : List Oper} (hl : ops.toList = l) (hds : ops.toList.map (·.dst) = ds) (hbef : Region.before ops = bef) (vs : List V) (comp : Cmp) (hm : P.follows .mixedOrders = true) (hc : CallOk P T) (hf : freeOk ops = true) (hs : comp (fun _ => false) = (s.toks, s.objs, s.low)) (H : FreeD P A T f bb bef ds (finD ds vs s.env) comp l 0)
    (k : ToS P A T f bb y ⟨finD ds vs s.env, (comp fun j => decide (j < ds.length)).1, (comp fun j => decide (j < ds.length)).2.1, (comp fun j => decide (j < ds.length)).2.2⟩ Q) : ToS P A T f bb (.seq (.region id ops true) y) s Q := by
  subst hbef hl
  have e : finD ds vs s.env = finE ops.toList vs s.env := by rw [finE_D, hds]
  have hlen : ds.length = ops.size := by rw [← hds]; simp
  rw [e] at H k
  rw [hlen] at k
  have h0 : ∀ x, (∀ o ∈ ops.toList, o.dst ≠ some x) → finE ops.toList vs s.env x = s.env x := fun x hx => finE_ne hx
  exact ToS.seq (.cut (free_sem hm hc hf rfl hs (H.H hds) (s' := ⟨finE ops.toList vs s.env, (comp fun j => decide (j < ops.size)).1, (comp fun j => decide (j < ops.size)).2.1, (comp fun j => decide (j < ops.size)).2.2⟩) (envL_all h0).symm rfl) k)
theorem rel_goS {fn : Func} {args : List V} {objs : List AO} {c : Code} {Post : List V → List AO → Rs → Prop} (rs : List ResultVar) (hb : fn.body = some c) (hr : fn.results.toList = rs) (h : ToS P A T f (baseOf A f objs.length) c ⟨entryEnv args, [], objs, objs.length⟩ (FinP P A f rs objs (Post args objs))) :
    ∃ r, relF (fun a o r => Post a o r ∧ EndsS P A T f fn a o r) args objs = some r ∧ Post args objs r := by
  obtain ⟨e, s, h1, h2, r, h3, h4⟩ := h
  subst hr
  obtain ⟨r', k1, k2⟩ := relF_of (R := fun a o r => Post a o r ∧ EndsS P A T f fn a o r) (args := args) (objs := objs) ⟨r, h4, c, e, s, hb, h2, h1, h3⟩
  exact ⟨r', k1, k2.1⟩
end
attribute [simp] opD_none opD_some dstIs_some dstIs_none
end Go.Ab
