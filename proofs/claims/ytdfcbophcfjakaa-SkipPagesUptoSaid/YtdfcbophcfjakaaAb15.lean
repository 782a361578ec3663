import Derived.Test.YtdfcbophcfjakaaAb14
set_option linter.unusedSimpArgs false
set_option linter.unusedVariables false
set_option linter.unusedSectionVars false
/- Operations that may change places. -/
namespace Go.Ab
section
variable {P : Program} {A : Ann} {ρ ρ' : Operand → V}
theorem args_congr {as : Array Operand} (h : ∀ x ∈ as, ρ x = ρ' x) : as.toList.map ρ = as.toList.map ρ' := List.map_congr_left fun x hx => h x (by simpa using hx)
theorem dargs_congr {as : Array Operand} (h : ∀ x ∈ as, ρ x = ρ' x) : (as.toList.map fun x => demote (ρ x)) = as.toList.map fun x => demote (ρ' x) := List.map_congr_left fun x hx => by rw [h x (by simpa using hx)]
theorem parts_congr {ps : Array (Nat × Operand)} (h : ∀ x ∈ (ps.toList.map (·.2)).toArray, ρ x = ρ' x) : (ps.toList.map fun p => (p.1, demote (ρ p.2))) = ps.toList.map fun p => (p.1, demote (ρ' p.2)) :=
  List.map_congr_left fun p hp => by rw [h p.2 (by simp only [List.mem_toArray, List.mem_map]; exact ⟨p, hp, rfl⟩)]
theorem opt_congr {o : Option Operand} (h : ∀ x ∈ o.toArray, ρ x = ρ' x) : o.map ρ = o.map ρ' := by
  cases o with
  | none => rfl
  | some x => simp [h x (by simp)]
theorem pureV_congr {op : Op} (h : ∀ x ∈ op.operands, ρ x = ρ' x) : pureV P ρ op = pureV P ρ' op := by
  cases op with
  | build t ps => simp only [Op.operands] at h; simp only [pureV, parts_congr h]
  | buildSlice t n ps => simp only [Op.operands] at h; simp only [pureV, parts_congr h]
  | makeFunc f a b =>
    simp only [Op.operands] at h
    simp only [pureV]
    rw [dargs_congr (fun x hx => h x (by simp [hx])), dargs_congr (as := b) (fun x hx => h x (by simp [hx]))]
  | call c =>
    obtain ⟨callee, args, ats⟩ := c
    simp only [Op.operands, Call.operands] at h
    cases callee with
    | value f => rfl
    | invoke r m => rfl
    | builtin b =>
      have hl : args.toList.map ρ = args.toList.map ρ' := args_congr fun x hx => h x (by simpa using hx)
      cases b with
      | len =>
        simp only [pureV]
        split
        · rename_i t x h1 h2
          rw [h x (by simpa using Array.mem_of_getElem? h2)]
        · rfl
      | max => simp only [pureV, hl]
      | min => simp only [pureV, hl]
      | _ => rfl
  | _ => first | rfl | (simp only [Op.operands] at h; simp only [pureV]; simp_all; done)
theorem readV_congr {objs : List AO} {op : Op} (h : ∀ x ∈ op.operands, ρ x = ρ' x) : readV P ρ objs op = readV P ρ' objs op := by
  cases op with
  | load t a => simp only [Op.operands] at h; simp only [readV, h a (by simp)]
  | slice t x lo hi mx =>
    simp only [Op.operands] at h
    simp only [readV, h x (by simp), opt_congr (o := lo) (fun x hx => h x (by simp at hx ⊢; simp [hx])), opt_congr (o := hi) (fun x hx => h x (by simp at hx ⊢; simp [hx])), opt_congr (o := mx) (fun x hx => h x (by simp at hx ⊢; simp [hx]))]
  | lookup t x i ok => simp only [Op.operands] at h; simp only [readV, h x (by simp), h i (by simp)]
  | _ => rfl
theorem pureX_congr {op : Op} (h : ∀ x ∈ op.operands, ρ x = ρ' x) : pureX P ρ op = pureX P ρ' op := by
  unfold pureX
  split
  · exact readV_congr h
  · exact readV_congr h
  · exact pureV_congr h
theorem tokV_congr {objs : List AO} {toks : List Nat} {op : Op} (h : ∀ x ∈ op.operands, ρ x = ρ' x) : tokV P ρ objs toks op = tokV P ρ' objs toks op := by
  cases op with
  | makeSlice t l c => simp only [Op.operands] at h; simp only [tokV, h l (by simp), h c (by simp)]
  | buildSlice t n ps => simp only [Op.operands] at h; simp only [tokV, parts_congr h]
  | call c =>
    obtain ⟨callee, args, ats⟩ := c
    simp only [Op.operands, Call.operands] at h
    cases callee with
    | value f => rfl
    | invoke r m => rfl
    | builtin b =>
      cases b with
      | append =>
        simp only [tokV]
        split
        · rename_i t t2 x y h1 h2
          have hx : x ∈ args := by rw [← Array.mem_toList_iff, h2]; simp
          have hy : y ∈ args := by rw [← Array.mem_toList_iff, h2]; simp
          rw [h x (by simpa using hx), h y (by simpa using hy)]
        · rfl
      | _ => rfl
  | _ => rfl
theorem actV_congr {objs : List AO} {base low : Nat} {op : Op} (h : ∀ x ∈ op.operands, ρ x = ρ' x) : actV P ρ base objs low op = actV P ρ' base objs low op := by
  cases op with
  | box t x => simp only [Op.operands] at h; simp only [actV, h x (by simp)]
  | store t a x => simp only [Op.operands] at h; simp only [actV, h a (by simp), h x (by simp)]
  | makeMap t r => simp only [Op.operands] at h; simp only [actV, opt_congr h]
  | mapUpdate t m k x => simp only [Op.operands] at h; simp only [actV, h m (by simp), h k (by simp), h x (by simp)]
  | makeSlice t l c => simp only [Op.operands] at h; simp only [actV, h l (by simp), h c (by simp)]
  | buildSlice t n ps => simp only [Op.operands] at h; simp only [actV, parts_congr h]
  | call c =>
    obtain ⟨callee, args, ats⟩ := c
    simp only [Op.operands, Call.operands] at h
    cases callee with
    | value f => rfl
    | invoke r m => rfl
    | builtin b =>
      cases b with
      | append =>
        simp only [actV]
        split
        · rename_i t t2 x y h1 h2
          have hx : x ∈ args := by rw [← Array.mem_toList_iff, h2]; simp
          have hy : y ∈ args := by rw [← Array.mem_toList_iff, h2]; simp
          rw [h x (by simpa using hx), h y (by simpa using hy)]
        · rfl
      | copy =>
        simp only [actV]
        split
        · rename_i t t2 x y h1 h2
          have hx : x ∈ args := by rw [← Array.mem_toList_iff, h2]; simp
          have hy : y ∈ args := by rw [← Array.mem_toList_iff, h2]; simp
          rw [h x (by simpa using hx), h y (by simpa using hy)]
        · rfl
      | _ => rfl
  | _ => rfl
theorem target_congr {c : Call} (h : ∀ x ∈ c.operands, ρ x = ρ' x) : target ρ c = target ρ' c := by
  obtain ⟨callee, args, ats⟩ := c
  simp only [Call.operands] at h
  cases callee with
  | value f =>
    simp only [target]
    rw [h f (by simp), dargs_congr (as := args) (fun x hx => h x (by simp [hx]))]
  | _ => rfl
end
section
variable {P : Program} {A : Ann} {call : CallF} {f : FuncId} {base : Nat} {ops : Array Oper}
/-- What an operation leaves, and what it hangs on. -/
structure Foot (k : Kd) (run : St → Option (V × List Nat × List AO × Nat)) (s : St) (r : V × List Nat × List AO × Nat) : Prop where
  tk : k.toks = false → r.2.1 = s.toks
  ob : k.acts = false → r.2.2 = (s.objs, s.low)
theorem op_foot {o : Oper} {s s' : St} {r : V × List Nat × List AO × Nat} (h : evalOp P A call f base o s = some r) (he : ∀ x ∈ o.op.operands, opd s.env x = opd s'.env x)
    (ht : (kindOf A f o).toks = true → s'.toks = s.toks) (hr : (kindOf A f o).reads = true → s'.objs = s.objs) (ha : (kindOf A f o).acts = true → s'.low = s.low) :
    ((kindOf A f o).toks = false → r.2.1 = s.toks) ∧ ((kindOf A f o).acts = false → r.2.2 = (s.objs, s.low)) ∧
    evalOp P A call f base o s' = some (r.1, (if (kindOf A f o).toks then r.2.1 else s'.toks), (if (kindOf A f o).acts then r.2.2.1 else s'.objs), (if (kindOf A f o).acts then r.2.2.2 else s'.low)) := by
  unfold evalOp at h ⊢
  generalize kindOf A f o = k at *
  cases k with
  | pure =>
    simp only at h ⊢
    rw [← pureX_congr he]
    cases hv : pureX P (opd s.env) o.op with
    | none => rw [hv] at h; cases h
    | some v => rw [hv] at h; cases h; exact ⟨fun _ => rfl, fun _ => rfl, rfl⟩
  | read =>
    simp only at h ⊢
    rw [hr rfl, ← readV_congr he]
    cases hv : readV P (opd s.env) s.objs o.op with
    | none => rw [hv] at h; cases h
    | some v => rw [hv] at h; cases h; exact ⟨fun _ => rfl, fun _ => rfl, by simp [Kd.toks, Kd.acts]⟩
  | tok =>
    simp only at h ⊢
    rw [hr rfl, ht rfl, ← tokV_congr he]
    cases hv : tokV P (opd s.env) s.objs s.toks o.op with
    | none => rw [hv] at h; cases h
    | some v => rw [hv] at h; cases h; exact ⟨fun h => (by cases h), fun _ => rfl, by simp [Kd.toks, Kd.acts]⟩
  | act =>
    simp only at h ⊢
    rw [hr rfl, ha rfl, ← actV_congr he]
    cases hv : actV P (opd s.env) base s.objs s.low o.op with
    | none => rw [hv] at h; cases h
    | some v => rw [hv] at h; cases h; exact ⟨fun _ => rfl, fun h => (by cases h), by simp [Kd.toks, Kd.acts]⟩
  | readCall =>
    simp only at h ⊢
    split at h
    case h_2 => cases h
    rename_i c hop
    have hc := target_congr (c := c) (ρ := opd s.env) (ρ' := opd s'.env) (by rw [hop] at he; exact he)
    have e : readCall call (opd s'.env) s'.objs c = readCall call (opd s.env) s.objs c := by unfold readCall; rw [hr rfl, hc]
    simp only [e]
    cases hv : readCall call (opd s.env) s.objs c with
    | none => rw [hv] at h; cases h
    | some v => rw [hv] at h; cases h; exact ⟨fun _ => rfl, fun _ => rfl, rfl⟩
  | full =>
    simp only at h ⊢
    split at h
    case h_2 => cases h
    rename_i c hop
    have hc := target_congr (c := c) (ρ := opd s.env) (ρ' := opd s'.env) (by rw [hop] at he; exact he)
    have e : fullCall call (opd s'.env) base (A.modes f o.dst) s'.toks s'.objs s'.low c = fullCall call (opd s.env) base (A.modes f o.dst) s.toks s.objs s.low c := by unfold fullCall; rw [hr rfl, ht rfl, ha rfl, hc]
    simp only [e, h]
    exact ⟨fun h => (by cases h), fun h => (by cases h), by simp [Kd.toks, Kd.acts]⟩
  | calm =>
    simp only at h ⊢
    split at h
    case h_2 => cases h
    rename_i c hop
    split at h
    case isFalse => cases h
    rename_i hm
    have hc := target_congr (c := c) (ρ := opd s.env) (ρ' := opd s'.env) (by rw [hop] at he; exact he)
    have e : calmCall call (opd s'.env) (A.modes f o.dst) s'.toks s'.objs c = calmCall call (opd s.env) (A.modes f o.dst) s.toks s.objs c := by unfold calmCall; rw [hr rfl, ht rfl, hc]
    rw [if_pos hm]
    simp only [e]
    cases hv : calmCall call (opd s.env) (A.modes f o.dst) s.toks s.objs c with
    | none => rw [hv] at h; cases h
    | some v => rw [hv] at h; cases h; exact ⟨fun h => (by cases h), fun _ => rfl, by simp [Kd.toks, Kd.acts]⟩
theorem opR_foot {o : Oper} {s s' : St} {r : V × List Nat × List AO × Nat} (h : opR P A call f base ops o s = some r) (he : ∀ d ∈ looks ops o, s.env d = s'.env d)
    (ht : (kindOf A f o).toks = true → s'.toks = s.toks) (hr : (kindOf A f o).reads = true → s'.objs = s.objs) (ha : (kindOf A f o).acts = true → s'.low = s.low) :
    ((kindOf A f o).toks = false → r.2.1 = s.toks) ∧ ((kindOf A f o).acts = false → r.2.2 = (s.objs, s.low)) ∧
    opR P A call f base ops o s' = some (r.1, (if (kindOf A f o).toks then r.2.1 else s'.toks), (if (kindOf A f o).acts then r.2.2.1 else s'.objs), (if (kindOf A f o).acts then r.2.2.2 else s'.low)) := by
  have he1 : ∀ x ∈ o.op.operands, opd s.env x = opd s'.env x := by
    intro x hx
    cases x with
    | tmp t => exact he t (List.mem_append_left _ (List.mem_filterMap.2 ⟨.tmp t, by simpa using hx, rfl⟩))
    | _ => rfl
  unfold opR at h ⊢
  split at h
  · rename_i hg
    exact op_foot h he1 ht hr ha
  · rename_i j want hg
    have e2 : ((ops[j]?).bind (·.dst)).map s'.env = ((ops[j]?).bind (·.dst)).map s.env := by
      cases hd : (ops[j]?).bind (·.dst) with
      | none => rfl
      | some d =>
        simp only [Option.map_some]
        rw [he d (List.mem_append_right _ (by simp only [hg, hd]; simp))]
    rw [e2]
    split at h
    · rename_i b hb
      by_cases hw : b = want
      · rw [if_pos hw] at h ⊢; exact op_foot h he1 ht hr ha
      · rw [if_neg hw] at h ⊢; cases h
        refine ⟨fun _ => rfl, fun _ => rfl, ?_⟩
        simp only [Option.some.injEq, Prod.mk.injEq, true_and]
        refine ⟨?_, ?_, ?_⟩
        · split
          · rename_i hk; exact ht hk
          · rfl
        · split
          · rename_i hk; exact hr (by cases hq : kindOf A f o <;> simp_all [Kd.acts, Kd.reads])
          · rfl
        · split
          · rename_i hk; exact ha hk
          · rfl
    · cases h
      refine ⟨fun _ => rfl, fun _ => rfl, ?_⟩
      simp only [Option.some.injEq, Prod.mk.injEq, true_and]
      refine ⟨?_, ?_, ?_⟩
      · split
        · rename_i hk; exact ht hk
        · rfl
      · split
        · rename_i hk; exact hr (by cases hq : kindOf A f o <;> simp_all [Kd.acts, Kd.reads])
        · rfl
      · split
        · rename_i hk; exact ha hk
        · rfl
    · cases h
theorem put_ne {e : Nat → V} {d : Option Nat} {v : V} {i : Nat} (h : d ≠ some i) : put e d v i = e i := by
  cases d with
  | none => rfl
  | some d => simp only [put, upd]; rw [if_neg]; rintro rfl; exact h rfl
theorem put_swap {e : Nat → V} {d d' : Option Nat} {v u : V} (h : ∀ x, d = some x → d' ≠ some x) : put (put e d v) d' u = put (put e d' u) d v := by
  cases d with
  | none => rfl
  | some x =>
    cases d' with
    | none => rfl
    | some y =>
      have : x ≠ y := fun q => h x rfl (by rw [q])
      funext i
      simp only [put, upd]
      by_cases h1 : i = x <;> by_cases h2 : i = y <;> simp_all
theorem apart_inv {a b : Oper} (h : apart A f ops a b = true) : conflict (kindOf A f a) (kindOf A f b) = false ∧ (∀ d, a.dst = some d → d ∉ looks ops b) ∧ (∀ d, a.dst = some d → b.dst ≠ some d) ∧ (∀ d, b.dst = some d → d ∉ looks ops a) := by
  unfold apart at h
  simp only [Bool.and_eq_true, Bool.not_eq_true'] at h
  obtain ⟨⟨h1, h2⟩, h3⟩ := h
  refine ⟨h1, fun d hd => ?_, fun d hd => ?_, fun d hd => ?_⟩
  · rw [hd] at h2; simp at h2; exact h2.1
  · rw [hd] at h2; simp at h2; exact h2.2
  · rw [hd] at h3; simpa using h3
/-- Two neighbours change places. -/
theorem step_swap {i j : Nat} {a b : Oper} {s s1 s2 : St} (hi : ops[i]? = some a) (hj : ops[j]? = some b) (hap : apart A f ops a b = true) (h1 : stepOp P A call f base ops i s = some s1) (h2 : stepOp P A call f base ops j s1 = some s2) :
    ∃ s3, stepOp P A call f base ops j s = some s3 ∧ stepOp P A call f base ops i s3 = some s2 := by
  obtain ⟨c, d1, d2, d3⟩ := apart_inv hap
  unfold stepOp at h1 h2 ⊢
  rw [hi] at h1; rw [hj] at h2
  simp only [hi, hj] at h1 h2 ⊢
  cases ha : opR P A call f base ops a s with
  | none => rw [ha] at h1; cases h1
  | some ra =>
    rw [ha] at h1; cases h1
    cases hb : opR P A call f base ops b (s.put a.dst ra) with
    | none => rw [hb] at h2; cases h2
    | some rb =>
      rw [hb] at h2; cases h2
      have ca : (kindOf A f a).toks = false ∨ (kindOf A f b).toks = false := by unfold conflict at c; revert c; cases (kindOf A f a).toks <;> cases (kindOf A f b).toks <;> simp
      have cb : (kindOf A f a).acts = false ∨ (kindOf A f b).reads = false := by unfold conflict at c; revert c; cases (kindOf A f a).acts <;> cases (kindOf A f b).reads <;> simp
      have cc : (kindOf A f b).acts = false ∨ (kindOf A f a).reads = false := by unfold conflict at c; revert c; cases (kindOf A f b).acts <;> cases (kindOf A f a).reads <;> simp
      have ar : ∀ k : Kd, k.acts = true → k.reads = true := by intro k; cases k <;> simp [Kd.acts, Kd.reads]
      obtain ⟨fa1, fa2, _⟩ := opR_foot ha (s' := s) (fun _ _ => rfl) (fun _ => rfl) (fun _ => rfl) (fun _ => rfl)
      obtain ⟨fb1, fb2, fb3⟩ := opR_foot hb (s' := s) (fun d hd => put_ne (fun hq => d1 d hq hd)) (fun hk => (fa1 (ca.resolve_right (by simp [hk]))).symm) (fun hk => by rw [show s.objs = ra.2.2.1 from by rw [fa2 (cb.resolve_right (by simp [hk]))]]; rfl) (fun hk => by rw [show s.low = ra.2.2.2 from by rw [fa2 (cb.resolve_right (by simp [ar _ hk]))]]; rfl)
      refine ⟨_, by rw [fb3]; rfl, ?_⟩
      obtain ⟨_, _, fa3⟩ := opR_foot ha (s' := s.put b.dst (rb.1, (if (kindOf A f b).toks then rb.2.1 else s.toks), (if (kindOf A f b).acts then rb.2.2.1 else s.objs), (if (kindOf A f b).acts then rb.2.2.2 else s.low)))
        (fun d hd => (put_ne (fun hq => d3 d hq hd)).symm) (fun hk => by show (if _ then _ else _) = _; rw [if_neg (by simp [ca.resolve_left (by simp [hk])])])
        (fun hk => by show (if _ then _ else _) = _; rw [if_neg (by simp [cc.resolve_right (by simp [hk])])]) (fun hk => by show (if _ then _ else _) = _; rw [if_neg (by simp [cc.resolve_right (by simp [ar _ hk])])])
      rw [fa3]
      simp only [Option.map_some, Option.some.injEq, St.put, St.mk.injEq]
      refine ⟨put_swap (fun x hx => fun hq => d2 x hq hx), ?_, ?_, ?_⟩
      · rcases ca with q | q
        · simp only [q, Bool.false_eq_true, if_false]
          split
          · rfl
          · rename_i q2; rw [fb1 (by simpa using q2)]; exact (fa1 q).symm
        · simp only [q, Bool.false_eq_true, if_false]
          rw [fb1 q]
          split
          · rfl
          · rename_i q2; exact (fa1 (by simpa using q2)).symm
      · rcases cb with q | q
        · simp only [q, Bool.false_eq_true, if_false]
          split
          · rfl
          · rename_i q2; rw [fb2 (by simpa using q2)]; show s.objs = ra.2.2.1; rw [fa2 q]
        · have q3 : (kindOf A f b).acts = false := by cases hq : (kindOf A f b).acts with | false => rfl | true => rw [ar _ hq] at q; cases q
          simp only [q3, Bool.false_eq_true, if_false]
          rw [fb2 q3]
          show (if _ then ra.2.2.1 else s.objs) = ra.2.2.1
          split
          · rfl
          · rename_i q2; rw [fa2 (by simpa using q2)]
      · rcases cb with q | q
        · simp only [q, Bool.false_eq_true, if_false]
          split
          · rfl
          · rename_i q2; rw [fb2 (by simpa using q2)]; show s.low = ra.2.2.2; rw [fa2 q]
        · have q3 : (kindOf A f b).acts = false := by cases hq : (kindOf A f b).acts with | false => rfl | true => rw [ar _ hq] at q; cases q
          simp only [q3, Bool.false_eq_true, if_false]
          rw [fb2 q3]
          show (if _ then ra.2.2.2 else s.low) = ra.2.2.2
          split
          · rfl
          · rename_i q2; rw [fa2 (by simpa using q2)]
/-- One that is apart from all ahead of it may come first. -/
theorem evalOps_front {i : Nat} {b : Oper} (hi : ops[i]? = some b) {L2 : List Nat} {s' : St} : ∀ (L1 : List Nat) (s : St) (_ : ∀ j ∈ L1, ∃ a, ops[j]? = some a ∧ apart A f ops a b = true) (_ : evalOps P A call f base ops (L1 ++ i :: L2) s = some s'),
    ∃ s1, stepOp P A call f base ops i s = some s1 ∧ evalOps P A call f base ops (L1 ++ L2) s1 = some s' := by
  intro L1
  induction L1 with
  | nil =>
    intro s _ h
    simp only [List.nil_append, evalOps] at h
    cases h1 : stepOp P A call f base ops i s with
    | none => rw [h1] at h; cases h
    | some s1 => rw [h1] at h; exact ⟨s1, rfl, h⟩
  | cons j L1 ih =>
    intro s hap h
    simp only [List.cons_append, evalOps] at h
    cases h1 : stepOp P A call f base ops j s with
    | none => rw [h1] at h; cases h
    | some s1 =>
      rw [h1] at h
      obtain ⟨s2, q1, q2⟩ := ih s1 (fun k hk => hap k (by simp [hk])) h
      obtain ⟨a, ha, hab⟩ := hap j (by simp)
      obtain ⟨s3, q3, q4⟩ := step_swap ha hi hab h1 q1
      refine ⟨s3, q3, ?_⟩
      simp only [List.cons_append, evalOps, q4]
      exact q2
end
end Go.Ab
