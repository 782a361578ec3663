import Derived.Test.YtdfcbophcfjakaaAb19
set_option linter.unusedSimpArgs false
set_option linter.unusedVariables false
set_option linter.unusedSectionVars false
/- Rules by which one simp call runs all code up to a fork or a loop. -/
namespace Go.Ab
section
variable {P : Program} {A : Ann} {T : CallF} {f : FuncId} {base : Nat} {c x y : Code} {s s1 : St} {Q R : Ex → St → Prop}
/-- What is wanted behind the first of two. -/
def ThenQ (P : Program) (A : Ann) (T : CallF) (f : FuncId) (base : Nat) (y : Code) (Q : Ex → St → Prop) : Ex → St → Prop := fun e s => e.andThen (To P A T f base y s Q) (Q e s)
def BlockQ (id : Nat) (Q : Ex → St → Prop) : Ex → St → Prop := fun e s => Q (e.leave id) s
def LoopQ (P : Program) (A : Ann) (T : CallF) (f : FuncId) (base : Nat) (x : Code) (Q : Ex → St → Prop) : Ex → St → Prop := ThenQ P A T f base (.loop x) Q
/-- Where a piece ended. -/
def At (Q : Ex → St → Prop) (e : Ex) (s : St) : Prop := Q e s
def Ops (P : Program) (A : Ann) (T : CallF) (f : FuncId) (base : Nat) (ops : Array Oper) (l : List Oper) (s : St) (Q : Ex → St → Prop) : Prop := ∃ s', runL P A T f base ops l s = some s' ∧ Q .norm s'
def OpQ (P : Program) (A : Ann) (T : CallF) (f : FuncId) (base : Nat) (ops : Array Oper) (d : Option Nat) (l : List Oper) (s : St) (Q : Ex → St → Prop) (r : Option (V × List Nat × List AO × Nat)) : Prop := ∃ p, r = some p ∧ Ops P A T f base ops l (s.put d p) Q
def Fork (P : Program) (A : Ann) (T : CallF) (f : FuncId) (base : Nat) (x y : Code) (s : St) (Q : Ex → St → Prop) (v : V) : Prop := ∃ t, v = .bool t ∧ To P A T f base (if t then x else y) s Q
theorem to_congr {s s' : St} (h : s = s') : To P A T f base c s Q = To P A T f base c s' Q := by rw [h]
theorem at_congr {e e' : Ex} (h : e = e') : At Q e s = At Q e' s := by rw [h]
theorem ops_congr {ops : Array Oper} {l : List Oper} : Ops P A T f base ops l s Q = Ops P A T f base ops l s Q := rfl
theorem opQ_congr {ops : Array Oper} {d : Option Nat} {l : List Oper} {r r' : Option (V × List Nat × List AO × Nat)} (h : r = r') : OpQ P A T f base ops d l s Q r = OpQ P A T f base ops d l s Q r' := by rw [h]
theorem forkT_congr {v v' : V} (h : v = v') : Fork P A T f base x y s Q v = Fork P A T f base x y s Q v' := by rw [h]
theorem to_seq : To P A T f base (.seq x y) s Q = To P A T f base x s (ThenQ P A T f base y Q) := by
  apply propext
  constructor
  · rintro ⟨e, s', ⟨n, h⟩, q⟩
    cases n with
    | zero => cases h
    | succ n =>
      simp only [evalC] at h
      cases hx : evalC P A T f base n x s with
      | none => rw [hx] at h; cases h
      | some p =>
        rw [hx] at h
        obtain ⟨e1, s1⟩ := p
        refine ⟨e1, s1, ⟨n, hx⟩, ?_⟩
        cases e1 with
        | norm => exact ⟨e, s', ⟨n, h⟩, q⟩
        | ret => cases h; exact q
        | exit i => cases h; exact q
  · exact To.seq
theorem to_block {id : Nat} : To P A T f base (.block id x) s Q = To P A T f base x s (BlockQ id Q) := by
  apply propext
  constructor
  · rintro ⟨e, s', ⟨n, h⟩, q⟩
    cases n with
    | zero => cases h
    | succ n =>
      rw [run_block] at h
      cases hx : evalC P A T f base n x s with
      | none => rw [hx] at h; cases h
      | some p =>
        rw [hx] at h
        obtain ⟨e1, s1⟩ := p
        cases h
        exact ⟨e1, s', ⟨n, hx⟩, q⟩
  · exact To.block
theorem to_end {e : Ex} (h : ∀ n, evalC P A T f base (n + 1) c s = some (e, s)) : To P A T f base c s Q = At Q e s := by
  apply propext
  constructor
  · rintro ⟨e', s', ⟨n, k⟩, q⟩
    cases n with
    | zero => cases k
    | succ n => rw [h n] at k; cases k; exact q
  · intro q; exact ⟨e, s, ⟨1, h 0⟩, q⟩
theorem to_skip : To P A T f base .skip s Q = At Q .norm s := to_end fun _ => rfl
theorem to_ret : To P A T f base .ret s Q = At Q .ret s := to_end fun _ => rfl
theorem to_exit {id : Nat} : To P A T f base (.exit id) s Q = At Q (.exit id) s := to_end fun _ => rfl
theorem to_ops {id : Nat} {ops : Array Oper} {draw : Bool} : To P A T f base (.region id ops draw) s Q = Ops P A T f base ops ops.toList s Q := by
  apply propext
  constructor
  · rintro ⟨e', s', ⟨n, k⟩, q⟩
    cases n with
    | zero => cases k
    | succ n =>
      rw [run_region] at k
      cases hr : runL P A T f base ops ops.toList s with
      | none => rw [hr] at k; cases k
      | some s1 => rw [hr] at k; cases k; exact ⟨s', hr, q⟩
  · rintro ⟨s', h, q⟩
    exact ⟨.norm, s', ⟨1, by rw [run_region, h]; rfl⟩, q⟩
theorem to_region {id : Nat} {l : List Oper} {draw : Bool} : To P A T f base (.region id l.toArray draw) s Q = Ops P A T f base l.toArray l s Q := to_ops
theorem ops_nil {ops : Array Oper} : Ops P A T f base ops [] s Q = At Q .norm s := by
  apply propext
  constructor
  · rintro ⟨s', h, q⟩; cases h; exact q
  · intro q; exact ⟨s, rfl, q⟩
theorem ops_cons {ops : Array Oper} {o : Oper} {os : List Oper} : Ops P A T f base ops (o :: os) s Q = OpQ P A T f base ops o.dst os s Q (opR P A T f base ops o s) := by
  apply propext
  constructor
  · rintro ⟨s', h, q⟩
    simp only [runL] at h
    cases ho : opR P A T f base ops o s with
    | none => rw [ho] at h; cases h
    | some p => rw [ho] at h; exact ⟨p, rfl, s', h, q⟩
  · rintro ⟨p, h, s', h2, q⟩
    refine ⟨s', ?_, q⟩
    simp only [runL, h]
    exact h2
theorem opQ_some {ops : Array Oper} {d : Option Nat} {os : List Oper} {v : V} {tk : List Nat} {ob : List AO} {lo : Nat} : OpQ P A T f base ops d os s Q (some (v, tk, ob, lo)) = Ops P A T f base ops os ⟨Ab.put s.env d v, tk, ob, lo⟩ Q := by
  apply propext
  constructor
  · rintro ⟨p, h, q⟩; cases h; exact q
  · intro q; exact ⟨_, rfl, q⟩
theorem to_cond {o : Operand} : To P A T f base (.cond o x y) s Q = Fork P A T f base x y s Q (opd s.env o) := by
  apply propext
  constructor
  · rintro ⟨e', s', ⟨n, k⟩, q⟩
    cases n with
    | zero => cases k
    | succ n =>
      simp only [evalC] at k
      split at k
      · rename_i t ht; exact ⟨t, ht, e', s', ⟨n, k⟩, q⟩
      · cases k
  · rintro ⟨t, ht, e', s', h, q⟩
    exact ⟨e', s', EvC.cond ht h, q⟩
theorem forkT_true : Fork P A T f base x y s Q (.bool true) = To P A T f base x s Q := by
  apply propext
  constructor
  · rintro ⟨t, h, q⟩; cases h; exact q
  · intro q; exact ⟨true, rfl, q⟩
theorem forkT_false : Fork P A T f base x y s Q (.bool false) = To P A T f base y s Q := by
  apply propext
  constructor
  · rintro ⟨t, h, q⟩; cases h; exact q
  · intro q; exact ⟨false, rfl, q⟩
/-- Both ways. -/
theorem Fork.both {b : Bool} (h1 : b = true → To P A T f base x s Q) (h2 : b = false → To P A T f base y s Q) : Fork P A T f base x y s Q (.bool b) := ⟨b, rfl, by cases b <;> simp_all⟩
theorem forkT_dec {p : Prop} [Decidable p] : Fork P A T f base x y s Q (.bool (decide p)) = ((p → To P A T f base x s Q) ∧ (¬ p → To P A T f base y s Q)) := by
  apply propext
  by_cases h : p
  · simp [h, forkT_true]
  · simp [h, forkT_false]
theorem at_then_norm : At (ThenQ P A T f base y Q) .norm s = To P A T f base y s Q := rfl
theorem at_then_ret : At (ThenQ P A T f base y Q) .ret s = At Q .ret s := rfl
theorem at_then_exit {i : Nat} : At (ThenQ P A T f base y Q) (.exit i) s = At Q (.exit i) s := rfl
theorem at_block_norm {id : Nat} : At (BlockQ id Q) .norm s = At Q .norm s := rfl
theorem at_block_ret {id : Nat} : At (BlockQ id Q) .ret s = At Q .ret s := rfl
theorem at_block_exit {id i : Nat} : At (BlockQ id Q) (.exit i) s = At Q (if i = id then .norm else .exit i) s := rfl
/-- A loop, by an invariant that counts up. -/
def UpQ (I : Nat → St → Prop) (N i : Nat) (Q : Ex → St → Prop) : Ex → St → Prop := fun e s => e.andThen (i < N ∧ I (i + 1) s) (Q e s)
theorem To.up (N : Nat) (I : Nat → St → Prop) (h0 : I 0 s) (hs : ∀ i s, i ≤ N → I i s → To P A T f base x s (UpQ I N i Q)) : To P A T f base (.loop x) s Q := by
  have : ∀ k i s, i + k = N → I i s → To P A T f base (.loop x) s Q := by
    intro k
    induction k with
    | zero =>
      intro i s hi h
      refine To.loop ((hs i s (by omega) h).mono fun e s1 q => ?_)
      cases e with
      | norm => exact absurd q.1 (by omega)
      | ret => exact q
      | exit j => exact q
    | succ k ih =>
      intro i s hi h
      refine To.loop ((hs i s (by omega) h).mono fun e s1 q => ?_)
      cases e with
      | norm => exact ih (i + 1) s1 (by omega) q.2
      | ret => exact q
      | exit j => exact q
  exact this N 0 s (by omega) h0
theorem at_up_norm {I : Nat → St → Prop} {N i : Nat} : At (UpQ I N i Q) .norm s = (i < N ∧ I (i + 1) s) := rfl
theorem at_up_ret {I : Nat → St → Prop} {N i : Nat} : At (UpQ I N i Q) .ret s = At Q .ret s := rfl
theorem at_up_exit {I : Nat → St → Prop} {N i j : Nat} : At (UpQ I N i Q) (.exit j) s = At Q (.exit j) s := rfl
/-- A loop, by an invariant with a measure that falls. -/
def DnQ (I : Nat → St → Prop) (n : Nat) (Q : Ex → St → Prop) : Ex → St → Prop := fun e s => e.andThen (∃ m, m < n ∧ I m s) (Q e s)
theorem To.dn (n : Nat) (I : Nat → St → Prop) (h0 : I n s) (hs : ∀ n s, I n s → To P A T f base x s (DnQ I n Q)) : To P A T f base (.loop x) s Q := by
  induction n using Nat.strongRecOn generalizing s with
  | _ n ih =>
    refine To.loop ((hs n s h0).mono fun e s1 q => ?_)
    cases e with
    | norm => obtain ⟨m, h1, h2⟩ := q; exact ih m h1 h2
    | ret => exact q
    | exit j => exact q
theorem at_dn_norm {I : Nat → St → Prop} {n : Nat} : At (DnQ I n Q) .norm s = ∃ m, m < n ∧ I m s := rfl
theorem at_dn_ret {I : Nat → St → Prop} {n : Nat} : At (DnQ I n Q) .ret s = At Q .ret s := rfl
theorem at_dn_exit {I : Nat → St → Prop} {n j : Nat} : At (DnQ I n Q) (.exit j) s = At Q (.exit j) s := rfl
/-- A stop: what holds there is told, all else forgotten. -/
theorem To.stop {M : Ex → St → Prop} (h : To P A T f base c s M) (k : ∀ e s, M e s → At Q e s) : To P A T f base c s Q := h.mono k
theorem Fork.stop {M : Ex → St → Prop} {v : V} (h : Fork P A T f base x y s M v) (k : ∀ e s, M e s → At Q e s) : Fork P A T f base x y s Q v := by
  obtain ⟨t, ht, h⟩ := h
  exact ⟨t, ht, h.mono k⟩
theorem To.at {h : Ex → St → Prop} (k : To P A T f base c s (At Q)) : To P A T f base c s Q := k
/-- The end of a function: its results are told. -/
def FinQ (P : Program) (A : Ann) (f : FuncId) (rs : List ResultVar) (objs : List AO) (r : V × Option (List AO × Nat)) : Ex → St → Prop := fun e s => (e = .norm ∨ e = .ret) ∧ fin P A f rs objs s = some r
where
  fin (P : Program) (A : Ann) (f : FuncId) (rs : List ResultVar) (objs0 : List AO) (s : St) : Option (V × Option (List AO × Nat)) :=
  match resVals P s rs with
  | none => none
  | some vs =>
    if A.keep f = true then some (packV (vs.map demote), some (s.objs, s.low)) else
    if A.still f = true then (stillL (stillV objs0.length s.objs 9) vs).map fun us => (packV us, if s.low < objs0.length then some (s.objs.take objs0.length, s.low) else none) else
    match outAll objs0.length s.toks s.objs true vs with
    | some vs => some (packV (thawAll (A.thaw f) (s.objs.take objs0.length) vs), if s.low < objs0.length then some (s.objs.take objs0.length, s.low) else none)
    | none => none
theorem at_fin_norm {rs : List ResultVar} {objs : List AO} {r : V × Option (List AO × Nat)} : At (FinQ P A f rs objs r) .norm s = (FinQ.fin P A f rs objs s = some r) := by simp [At, FinQ]
theorem at_fin_ret {rs : List ResultVar} {objs : List AO} {r : V × Option (List AO × Nat)} : At (FinQ P A f rs objs r) .ret s = (FinQ.fin P A f rs objs s = some r) := by simp [At, FinQ]
theorem Ends.go {fn : Func} {args : List V} {objs : List AO} {r : V × Option (List AO × Nat)} (rs : List ResultVar) (hb : fn.body = some c) (hr : fn.results.toList = rs) (h : To P A T f objs.length c ⟨entryEnv args, [], objs, objs.length⟩ (FinQ P A f rs objs r)) (hk : A.keep f = false := by rfl) : Ends P A T f fn args objs r := by
  refine Ends.to hb (h.mono fun e s q => ⟨q.1, ?_⟩) hk
  have := q.2
  rw [← hr] at this
  exact this
theorem Ends.goK {fn : Func} {args : List V} {objs : List AO} {r : V × Option (List AO × Nat)} (rs : List ResultVar) (hb : fn.body = some c) (hr : fn.results.toList = rs) (hk : A.keep f = true) (h : To P A T f 0 c ⟨entryEnv args, [], objs, objs.length⟩ (FinQ P A f rs objs r)) : Ends P A T f fn args objs r := by
  refine Ends.toK hb hk (h.mono fun e s q => ⟨q.1, ?_⟩)
  have := q.2
  rw [← hr] at this
  exact this
end
end Go.Ab
