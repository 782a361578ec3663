import Derived.Test.YtdfcbophcfjakaaAb17
import Derived.KernelRfl
import Derived.LoopN
set_option linter.unusedSimpArgs false
set_option linter.unusedVariables false
set_option linter.unusedSectionVars false
/- How one reasons of runs: contracts, and the rules. -/
namespace Go.Ab
section
variable {P : Program} {A : Ann} {T : CallF} {f : FuncId} {base : Nat}
/-- More fuel changes nothing. -/
theorem evalC_more : ∀ (n : Nat) (c : Code) (s : St) (r : Ex × St), evalC P A T f base n c s = some r → ∀ m, n ≤ m → evalC P A T f base m c s = some r := by
  intro n
  induction n with
  | zero => intro c s r h; simp only [evalC] at h; cases h
  | succ n ih =>
    intro c s r h m hm
    obtain ⟨m, rfl⟩ : ∃ k, m = k + 1 := ⟨m - 1, by omega⟩
    have hm : n ≤ m := by omega
    cases c with
    | seq x y =>
      simp only [evalC] at h ⊢
      cases h1 : evalC P A T f base n x s with
      | none => rw [h1] at h; cases h
      | some r1 =>
        rw [h1] at h; rw [ih x s r1 h1 m hm]
        obtain ⟨e, s1⟩ := r1
        cases e with
        | norm => exact ih _ _ _ h m hm
        | ret => exact h
        | exit id => exact h
    | cond c x y =>
      simp only [evalC] at h ⊢
      split at h
      · exact ih _ _ _ h m hm
      · cases h
    | block id x =>
      simp only [evalC] at h ⊢
      cases h1 : evalC P A T f base n x s with
      | none => rw [h1] at h; cases h
      | some r1 => rw [h1] at h; rw [ih x s r1 h1 m hm]; exact h
    | loop x =>
      simp only [evalC] at h ⊢
      cases h1 : evalC P A T f base n x s with
      | none => rw [h1] at h; cases h
      | some r1 =>
        rw [h1] at h; rw [ih x s r1 h1 m hm]
        obtain ⟨e, s1⟩ := r1
        cases e with
        | norm => exact ih _ _ _ h m hm
        | ret => exact h
        | exit id => exact h
    | region id ops draw => exact h
    | skip => exact h
    | exit id => exact h
    | ret => exact h
    | _ => simp only [evalC] at h; cases h
def EvC (P : Program) (A : Ann) (T : CallF) (f : FuncId) (base : Nat) (c : Code) (s : St) (r : Ex × St) : Prop := ∃ n, evalC P A T f base n c s = some r
variable {c x y : Code} {s s1 s' : St} {e : Ex} {r : Ex × St}
theorem EvC.region {id : Nat} {ops : Array Oper} {draw : Bool} (h : evalOps P A T f base ops (List.range ops.size) s = some s') : EvC P A T f base (.region id ops draw) s (.norm, s') :=
  ⟨1, by simp only [evalC]; rw [h]; rfl⟩
theorem EvC.seq (h : EvC P A T f base x s (.norm, s1)) (k : EvC P A T f base y s1 r) : EvC P A T f base (.seq x y) s r := by
  obtain ⟨n, h⟩ := h; obtain ⟨m, k⟩ := k
  refine ⟨max n m + 1, ?_⟩
  simp only [evalC]
  rw [evalC_more n x s _ h _ (Nat.le_max_left n m)]
  exact evalC_more m y s1 _ k _ (Nat.le_max_right n m)
theorem EvC.seq_out (h : EvC P A T f base x s (e, s1)) (he : e ≠ .norm) : EvC P A T f base (.seq x y) s (e, s1) := by
  obtain ⟨n, h⟩ := h
  refine ⟨n + 1, ?_⟩
  simp only [evalC]; rw [h]
  cases e with
  | norm => exact absurd rfl he
  | ret => rfl
  | exit id => rfl
theorem EvC.cond {t : Bool} {o : Operand} (ht : opd s.env o = .bool t) (h : EvC P A T f base (if t then x else y) s r) : EvC P A T f base (.cond o x y) s r := by
  obtain ⟨n, h⟩ := h
  exact ⟨n + 1, by simp only [evalC]; rw [ht]; exact h⟩
theorem EvC.block {id : Nat} (h : EvC P A T f base x s (e, s1)) : EvC P A T f base (.block id x) s (match e with | .exit i => if i = id then .norm else .exit i | e => e, s1) := by
  obtain ⟨n, h⟩ := h
  refine ⟨n + 1, ?_⟩
  simp only [evalC]; rw [h]
  cases e with
  | norm => rfl
  | ret => rfl
  | exit i => simp only; split <;> rfl
theorem EvC.loop_next (h : EvC P A T f base x s (.norm, s1)) (k : EvC P A T f base (.loop x) s1 r) : EvC P A T f base (.loop x) s r := by
  obtain ⟨n, h⟩ := h; obtain ⟨m, k⟩ := k
  refine ⟨max n m + 1, ?_⟩
  simp only [evalC]
  rw [evalC_more n x s _ h _ (Nat.le_max_left n m)]
  exact evalC_more m _ s1 _ k _ (Nat.le_max_right n m)
theorem EvC.loop_out (h : EvC P A T f base x s (e, s1)) (he : e ≠ .norm) : EvC P A T f base (.loop x) s (e, s1) := by
  obtain ⟨n, h⟩ := h
  refine ⟨n + 1, ?_⟩
  simp only [evalC]; rw [h]
  cases e with
  | norm => exact absurd rfl he
  | ret => rfl
  | exit id => rfl
theorem EvC.skip : EvC P A T f base .skip s (.norm, s) := ⟨1, rfl⟩
theorem EvC.ret : EvC P A T f base .ret s (.ret, s) := ⟨1, rfl⟩
theorem EvC.exit {id : Nat} : EvC P A T f base (.exit id) s (.exit id, s) := ⟨1, rfl⟩
end
/-- What a piece of code does, shown at the machine by hand. -/
structure CutOk (P : Program) (A : Ann) (T : CallF) (f : FuncId) (base : Nat) (c : Code) (s : St) (r : Ex × St) : Prop where
  nloop : ∀ x, c ≠ .loop x
  low : LowOk base s.objs s.low r.2.objs r.2.low
  run : ∀ (n : Nat) (G0 : Gh) (w0 : World) (objs0 : List AO) (a : Act) (w : World) (Q : Exit → Act → World → Prop), codeOk n c = true → drawsOk A f c = true → In n G0 w0 objs0 base s a w → (∀ a' w', In n G0 w0 objs0 base r.2 a' w' → Q r.1.out a' w') → c.wp P Q a w
def leaveE (id : Nat) (e : Ex) : Ex := match e with | .exit i => if i = id then .norm else .exit i | e => e
/-- A run of the evaluator, or of pieces that are shown by hand. -/
inductive EvW (P : Program) (A : Ann) (T : CallF) (f : FuncId) (base : Nat) : Code → St → Ex × St → Prop
  | go {c : Code} {s : St} {r : Ex × St} (n : Nat) (hl : ∀ x, c ≠ .loop x) (h : evalC P A T f base n c s = some r) : EvW P A T f base c s r
  | cut {c : Code} {s : St} {r : Ex × St} (h : CutOk P A T f base c s r) : EvW P A T f base c s r
  | seq {x y : Code} {s s1 : St} {r : Ex × St} (h : EvW P A T f base x s (.norm, s1)) (k : EvW P A T f base y s1 r) : EvW P A T f base (.seq x y) s r
  | seq_out {x y : Code} {s s1 : St} {e : Ex} (h : EvW P A T f base x s (e, s1)) (he : e ≠ .norm) : EvW P A T f base (.seq x y) s (e, s1)
  | cond {x y : Code} {s : St} {r : Ex × St} {t : Bool} {o : Operand} (ht : opd s.env o = .bool t) (h : EvW P A T f base (if t then x else y) s r) : EvW P A T f base (.cond o x y) s r
  | blk {x : Code} {s s1 : St} {e e' : Ex} {id : Nat} (h : EvW P A T f base x s (e, s1)) (he : e' = leaveE id e) : EvW P A T f base (.block id x) s (e', s1)
  | loop_next {x : Code} {s s1 : St} {r : Ex × St} (h : EvW P A T f base x s (.norm, s1)) (k : EvW P A T f base (.loop x) s1 r) : EvW P A T f base (.loop x) s r
  | loop_out {x : Code} {s s1 : St} {e : Ex} (h : EvW P A T f base x s (e, s1)) (he : e ≠ .norm) : EvW P A T f base (.loop x) s (e, s1)
section
variable {P : Program} {A : Ann} {T : CallF} {f : FuncId} {base : Nat}
variable {c x y : Code} {s s1 s' : St} {e : Ex} {r : Ex × St}
theorem EvW.block {id : Nat} (h : EvW P A T f base x s (e, s1)) : EvW P A T f base (.block id x) s (match e with | .exit i => if i = id then .norm else .exit i | e => e, s1) := .blk h (by cases e <;> rfl)
theorem EvW.run : ∀ (n : Nat) (c : Code) (s : St) (r : Ex × St), evalC P A T f base n c s = some r → EvW P A T f base c s r := by
  intro n
  induction n with
  | zero => intro c s r h; simp only [evalC] at h; cases h
  | succ n ih =>
    intro c s r h
    by_cases hl : ∃ x, c = .loop x
    · obtain ⟨x, rfl⟩ := hl
      simp only [evalC] at h
      split at h
      · rename_i s1 h1; exact .loop_next (ih _ _ _ h1) (ih _ _ _ h)
      · rename_i h1
        obtain ⟨e, s1⟩ := r
        exact .loop_out (ih _ _ _ h) (fun he => h1 s1 (by rw [he] at h; exact h))
    · exact .go (n + 1) (fun x hx => hl ⟨x, hx⟩) h
theorem EvW.ok (hm : P.follows .mixedOrders = true) (hc : CallOk P T) (h : EvW P A T f base c s r) : LowOk base s.objs s.low r.2.objs r.2.low ∧
    (∀ (n : Nat) (G0 : Gh) (w0 : World) (objs0 : List AO) (a : Act) (w : World) (Q : Exit → Act → World → Prop), codeOk n c = true → drawsOk A f c = true → In n G0 w0 objs0 base s a w → (∀ a' w', In n G0 w0 objs0 base r.2 a' w' → Q r.1.out a' w') → c.wp P Q a w) ∧
    (∀ x, c = .loop x → ∃ k, ∀ (n : Nat) (G0 : Gh) (w0 : World) (objs0 : List AO) (a : Act) (w : World) (Q : Exit → Act → World → Prop), codeOk n x = true → drawsOk A f x = true → In n G0 w0 objs0 base s a w → (∀ a' w', In n G0 w0 objs0 base r.2 a' w' → Q r.1.out a' w') → Code.rounds P x Q k a w) := by
  induction h with
  | @go c s r n hl h =>
    obtain ⟨e, s'⟩ := r
    exact ⟨evalC_low hc n c s s' e h, fun n' G0 w0 objs0 a w Q h1 h2 h3 h4 => evalC_ok hm hc n c s a w e s' Q h1 h2 h h3 h4, fun x hx => absurd hx (hl x)⟩
  | cut h => exact ⟨h.low, h.run, fun x hx => absurd hx (h.nloop x)⟩
  | seq h k ih1 ih2 =>
    refine ⟨ih1.1.trans ih2.1, fun n G0 w0 objs0 a w Q h1 h2 h3 h4 => ?_, fun x hx => by cases hx⟩
    simp only [codeOk, Bool.and_eq_true] at h1
    simp only [drawsOk, Bool.and_eq_true] at h2
    exact wp_seq (ih1.2.1 n G0 w0 objs0 a w _ h1.1 h2.1 h3 fun a' w' hF => ih2.2.1 n G0 w0 objs0 a' w' Q h1.2 h2.2 hF h4)
  | @seq_out x y s s1 e h he ih =>
    refine ⟨ih.1, fun n G0 w0 objs0 a w Q h1 h2 h3 h4 => ?_, fun x hx => by cases hx⟩
    simp only [codeOk, Bool.and_eq_true] at h1
    simp only [drawsOk, Bool.and_eq_true] at h2
    refine wp_seq (ih.2.1 n G0 w0 objs0 a w _ h1.1 h2.1 h3 fun a' w' hF => ?_)
    cases e with
    | norm => exact absurd rfl he
    | ret => exact h4 a' w' hF
    | exit id => exact h4 a' w' hF
  | @cond x y s r t o ht h ih =>
    refine ⟨ih.1, fun n G0 w0 objs0 a w Q h1 h2 h3 h4 => ?_, fun x hx => by cases hx⟩
    simp only [codeOk, Bool.and_eq_true] at h1
    simp only [drawsOk, Bool.and_eq_true] at h2
    have h3' := h3
    obtain ⟨G, tl, hF1⟩ := h3'
    have hx := opd_vr hF1.env o
    rw [ht] at hx
    refine wp_cond hx.bool_inv (ih.2.1 n G0 w0 objs0 a w Q ?_ ?_ h3 h4)
    · cases t
      · exact h1.2
      · exact h1.1
    · cases t
      · exact h2.2
      · exact h2.1
  | @blk x s s1 e e' id h he ih =>
    subst he
    refine ⟨ih.1, fun n G0 w0 objs0 a w Q h1 h2 h3 h4 => ?_, fun x hx => by cases hx⟩
    simp only [codeOk] at h1
    simp only [drawsOk] at h2
    refine wp_block (ih.2.1 n G0 w0 objs0 a w _ h1 h2 h3 fun a' w' hF => ?_)
    have := h4 a' w' hF
    cases e with
    | norm => exact this
    | ret => exact this
    | exit i =>
      simp only [Ex.out, Exit.inBlock]
      simp only [leaveE] at this
      by_cases hi : i = id
      · rw [if_pos hi] at this ⊢; exact this
      · rw [if_neg hi] at this ⊢; exact this
  | @loop_next x s s1 r h k ih1 ih2 =>
    obtain ⟨kk, hk⟩ := ih2.2.2 x rfl
    have main : ∀ (n : Nat) (G0 : Gh) (w0 : World) (objs0 : List AO) (a : Act) (w : World) (Q : Exit → Act → World → Prop), codeOk n x = true → drawsOk A f x = true → In n G0 w0 objs0 base s a w → (∀ a' w', In n G0 w0 objs0 base r.2 a' w' → Q r.1.out a' w') → Code.rounds P x Q (kk + 1) a w :=
      fun n G0 w0 objs0 a w Q h1 h2 h3 h4 => ih1.2.1 n G0 w0 objs0 a w _ h1 h2 h3 fun a' w' hF => hk n G0 w0 objs0 a' w' Q h1 h2 hF h4
    refine ⟨ih1.1.trans ih2.1, fun n G0 w0 objs0 a w Q h1 h2 h3 h4 => wp_loop_rounds (kk + 1) (main n G0 w0 objs0 a w Q (by simpa [codeOk] using h1) (by simpa [drawsOk] using h2) h3 h4), fun y hy => ?_⟩
    cases hy
    exact ⟨kk + 1, main⟩
  | @loop_out x s s1 e h he ih =>
    have main : ∀ (n : Nat) (G0 : Gh) (w0 : World) (objs0 : List AO) (a : Act) (w : World) (Q : Exit → Act → World → Prop), codeOk n x = true → drawsOk A f x = true → In n G0 w0 objs0 base s a w → (∀ a' w', In n G0 w0 objs0 base s1 a' w' → Q e.out a' w') → Code.rounds P x Q 1 a w :=
      fun n G0 w0 objs0 a w Q h1 h2 h3 h4 => ih.2.1 n G0 w0 objs0 a w _ h1 h2 h3 fun a' w' hF => by
        cases e with
        | norm => exact absurd rfl he
        | ret => exact h4 a' w' hF
        | exit id => exact h4 a' w' hF
    refine ⟨ih.1, fun n G0 w0 objs0 a w Q h1 h2 h3 h4 => wp_loop_rounds 1 (main n G0 w0 objs0 a w Q (by simpa [codeOk] using h1) (by simpa [drawsOk] using h2) h3 h4), fun y hy => ?_⟩
    cases hy
    exact ⟨1, main⟩
end
/-! states by the slots that are looked at -/
def upds (e : Nat → V) : List (Nat × V) → Nat → V
  | [] => e
  | (i, v) :: L => upd (upds e L) i v
theorem upd_eta {e : Nat → V} {i : Nat} {v : V} (h : e i = v) : upd e i v = e := by
  funext j; unfold upd; split
  · rename_i hj; rw [hj, h]
  · rfl
theorem upds_eta {e : Nat → V} : ∀ {L : List (Nat × V)}, (L.map fun p => e p.1) = L.map (·.2) → upds e L = e
  | [], _ => rfl
  | (i, v) :: L, h => by
    simp only [List.map_cons, List.cons.injEq] at h
    simp only [upds, upds_eta h.2]
    exact upd_eta h.1
section
variable {P : Program} {A : Ann} {T : CallF} {f : FuncId} {base : Nat}
/-- Code without a fork in what is not known, run by the kernel. -/
theorem seg {c : Code} {s : St} {ex : Ex} {toks' : List Nat} {objs' : List AO} {low' : Nat} (n : Nat) (L' : List (Nat × V))
    (h : (evalC P A T f base n c s).map (fun p => (p.1, L'.map (fun q => p.2.env q.1), p.2.toks, p.2.objs, p.2.low)) = some (ex, L'.map (·.2), toks', objs', low')) :
    ∃ e', EvC P A T f base c s (ex, ⟨upds e' L', toks', objs', low'⟩) := by
  cases h1 : evalC P A T f base n c s with
  | none => rw [h1] at h; cases h
  | some p =>
    rw [h1] at h
    simp only [Option.map_some, Option.some.injEq, Prod.mk.injEq] at h
    obtain ⟨a1, a2, a3, a4, a5⟩ := h
    obtain ⟨e, env, tk, ob, lo⟩ := p
    simp only at a1 a2 a3 a4 a5
    subst a1; subst a3; subst a4; subst a5
    exact ⟨env, n, by rw [upds_eta a2]; exact h1⟩
/-- A stretch of a region. -/
theorem segO {ops : Array Oper} {l : List Nat} {s : St} {toks' : List Nat} {objs' : List AO} {low' : Nat} (L' : List (Nat × V))
    (h : (evalOps P A T f base ops l s).map (fun p => (L'.map (fun q => p.env q.1), p.toks, p.objs, p.low)) = some (L'.map (·.2), toks', objs', low')) :
    ∃ e', evalOps P A T f base ops l s = some ⟨upds e' L', toks', objs', low'⟩ := by
  cases h1 : evalOps P A T f base ops l s with
  | none => rw [h1] at h; cases h
  | some p =>
    rw [h1] at h
    simp only [Option.map_some, Option.some.injEq, Prod.mk.injEq] at h
    obtain ⟨a2, a3, a4, a5⟩ := h
    obtain ⟨env, tk, ob, lo⟩ := p
    simp only at a2 a3 a4 a5
    subst a3; subst a4; subst a5
    exact ⟨env, by rw [upds_eta a2]⟩
theorem evalOps_app {ops : Array Oper} {l2 : List Nat} {s' : St} : ∀ {l1 : List Nat} {s s1 : St}, evalOps P A T f base ops l1 s = some s1 → evalOps P A T f base ops l2 s1 = some s' → evalOps P A T f base ops (l1 ++ l2) s = some s'
  | [], s, s1, h, k => by simp only [evalOps] at h; cases h; exact k
  | i :: l1, s, s1, h, k => by
    simp only [List.cons_append, evalOps] at h ⊢
    cases h1 : stepOp P A T f base ops i s with
    | none => rw [h1] at h; cases h
    | some s2 => rw [h1] at h; exact evalOps_app (l1 := l1) h k
theorem step1 {ops : Array Oper} {i : Nat} {s s' : St} (h : stepOp P A T f base ops i s = some s') : evalOps P A T f base ops [i] s = some s' := by simp only [evalOps, h]; rfl
theorem entry_in {n : Nat} {args : List V} {objs : List AO} {G : Gh} {w : World} {cargs : Array Value} (hs : Store G noTl w.heap.size [] objs w) (ha : AR G w args cargs.toList) :
    In n G w objs (baseOf A f objs.length) ⟨entryEnv args, [], objs, objs.length⟩ { tmps := cargs ++ Array.replicate (n - cargs.size) Go.undef, defers := [] } w := by
  refine ⟨G, noTl, fun t => ?_, Marks.nil _ _, by simp; omega, hs, GLe.refl G, WLe.refl G w, fun _ _ _ => rfl, fun _ _ h => .inr h, fun _ _ _ h => h, Nat.le_refl _, fun _ _ _ => rfl, clean_base hs.clean, baseOf_le, fun id ver h => hs.news id h ver⟩
  obtain ⟨g1, g2, g3⟩ := ha.get t
  have e : (cargs ++ Array.replicate (n - cargs.size) Go.undef).getD t Go.undef = cargs.toList.getD t Go.undef := by
    rw [Array.getD_eq_getD_getElem?, List.getD_eq_getElem?_getD, Array.getElem?_toList]
    rcases Nat.lt_or_ge t cargs.size with q | q
    · rw [Array.getElem?_append_left q]
    · rw [Array.getElem?_append_right q, Array.getElem?_eq_none q, Array.getElem?_replicate]
      split <;> rfl
  show VR G w (args.getD t .undef) _ ∧ TokT noTl w.heap.size w (args.getD t .undef) _
  rw [e]
  exact ⟨g1, TokT.of g2 g3⟩
/-- One function's contract joins those that there are. -/
theorem fun_ok {fn : Func} {c : Code} {args : List V} {objs : List AO} {e : Ex} {s : St} {v : V} {r : Option (List AO × Nat)} (hP : Fit P) (hT : CallOk P T) (hfn : P.funcs[f]? = some fn) (hb : fn.body = some c) (hdk : drawsOk A f c = true)
    (he : e = .norm ∨ e = .ret) (hev : EvW P A T f (baseOf A f objs.length) c ⟨entryEnv args, [], objs, objs.length⟩ (e, s)) (hfin : finish P A f fn objs s = some (v, r)) :
    (∀ objs' low', r = some (objs', low') → objs.length ≤ objs'.length ∧ ∀ id, id < low' → id < objs.length → objs'[id]? = objs[id]?) ∧
    ∀ (G : Gh) (w : World) (cargs : Array Value), Store G noTl w.heap.size [] objs w → AR G w args cargs.toList → Entered P f cargs w (fun c w' => ∃ G', Back G objs w v ((r.map (·.1)).getD objs) c w' G') := by
  obtain ⟨hok, hname⟩ := hP.code f fn c hfn hb
  have hok2 := hev.ok hP.mixed hT
  have hcf : ∀ cargs w, (callFunc f cargs).run P w = .ok (.enter f cargs) w := by
    intro cargs w
    have h1 : (fn.name = "runtime.NumGoroutine") = False := by simpa using hname
    simp [callFunc, hfn, h1, hb]
  refine ⟨?_, fun G w cargs hs ha => .inl ⟨hcf cargs w, calls_of_marks hfn hb he (fun Q hQ => hok2.2.1 _ _ _ _ _ w _ hok hdk (entry_in hs ha) hQ) fun a' w' hF' => ?_⟩⟩
  · unfold finish at hfin
    split at hfin
    · cases hfin
    intro objs' low' he
    have hl := hok2.1
    have hlen : objs.length ≤ s.objs.length := hl.len
    split at hfin
    · cases hfin; cases he
      exact ⟨hlen, fun id h1 h2 => hl.same id h1 h2⟩
    split at hfin
    · obtain ⟨us, _, hfin⟩ := Option.map_eq_some_iff.1 hfin
      cases hfin
      split at he
      · cases he
        exact ⟨by rw [List.length_take, Nat.min_eq_left hlen]; exact Nat.le_refl _, fun id h1 h2 => by rw [List.getElem?_take_of_lt h2]; exact hl.same id h1 h2⟩
      · cases he
    split at hfin
    case h_2 => cases hfin
    cases hfin
    split at he
    · cases he
      exact ⟨by rw [List.length_take, Nat.min_eq_left hlen]; exact Nat.le_refl _, fun id h1 h2 => by rw [List.getElem?_take_of_lt h2]; exact hl.same id h1 h2⟩
    · cases he
  · obtain ⟨G', tl', hF'⟩ := hF'
    obtain ⟨bs, b1, b2, b3⟩ := hF'.dfr
    obtain ⟨cv, G2, q1, q2⟩ := finish_ok (P := P) (A := A) (f := f) (fn := fn) (hF'.shut bs b2 b3) rfl hs hfin
    exact ⟨bs, b1, b2, fun b hb => (b3 b hb).2, cv, q1, G2, q2⟩
abbrev Spec := List V → List AO → Option (V × Option (List AO × Nat))
def withF (T : CallF) (f : FuncId) (F : Spec) : CallF := fun g args objs => if g = f then F args objs else T g args objs
theorem con_none : CallOk P (fun _ _ _ => none) := fun _ _ _ _ _ h => by cases h
end
/-! the whole -/
theorem AR.one {G : Gh} {w : World} {v : V} {c : Value} {vs : List V} {cs : List Value} (h : VR G w v c) (h1 : ∀ k cs len, v = .lst k cs len → k = .frozen) (h2 : ∀ vs, v ≠ .tup vs) (k : AR G w vs cs) : AR G w (v :: vs) (c :: cs) := ⟨⟨h, h1, h2⟩, k⟩
def top (w : World) : Gh := ⟨fun _ _ => none, fun b _ => b < w.heap.size⟩
/-- From a contract to the call. -/
theorem whole {P : Program} {T : CallF} {f : FuncId} {fn : Func} {args : List V} {cargs : Array Value} {w : World} (hP : Fit P) (hT : CallOk P T) (hfn : P.funcs[f]? = some fn) (hb : fn.body.isSome = true) (h : T f args [] = some (.bool true, none))
    (ha : AR (top w) w args cargs.toList) : Calls P f cargs w fun e w' => e = .returned (.bool true) ∧ Go.RowKit.Below w.heap.size w w' := by
  have hs : Store (top w) noTl w.heap.size [] [] w :=
    ⟨fun id cs ver hi => by simp at hi, fun id cs ver hi => by simp at hi, fun _ _ _ => rfl, fun t n ht => by simp at ht, fun t n ht => by simp at ht, fun _ _ _ => rfl, fun i i' cs cs' v v' b o o' hi => by simp at hi, fun t t' n n' b o o' ht => by simp at ht,
      fun i cs v t n b o o' hi => by simp at hi, fun b x hx => hx, fun b hb => (by obtain ⟨_, _, _, h⟩ := hb; cases h), ⟨fun id es hi => by simp at hi, fun id es hi => by simp at hi, fun i i' es es' b hi => by simp at hi⟩⟩
  have hno : ∀ b, ¬ Owned (top w) [] b := by rintro b ⟨id, ver, o, ⟨cs, h1⟩ | ⟨_, es, h1⟩, _⟩ <;> simp at h1
  have fin : ∀ c w', (∃ G', Back (top w) [] w (.bool true) [] c w' G') → c = .bool true ∧ Go.RowKit.Below w.heap.size w w' := by
    rintro c w' ⟨G', k⟩
    exact ⟨((k.res.1 rfl).1).bool_inv, k.wle.os, k.wle.tape, k.wle.output, k.wle.size, fun b hb => k.fr b hb (hno b)⟩
  obtain ⟨body, hbody⟩ := Option.isSome_iff_exists.1 hb
  have hcf : (callFunc f cargs).run P w = .ok (.enter f cargs) w := by
    have h1 : (fn.name = "runtime.NumGoroutine") = False := by simpa using (hP.code f fn body hfn hbody).2
    simp [callFunc, hfn, h1, hbody]
  rcases (hT f args [] _ _ h).2 (top w) w cargs hs ha with ⟨_, h2⟩ | ⟨c, w', h1, _⟩
  · refine Calls.mono h2 fun e w' hx => ?_
    cases e with
    | returned c => obtain ⟨q1, q2⟩ := fin c w' hx; exact ⟨by rw [q1], q2⟩
    | panicked ch => exact hx.elim
    | outgrown => exact hx.elim
  · rw [hcf] at h1; cases h1
end Go.Ab
namespace Go.Ab
/-- The same by one look at the program. -/
def fitB (P : Program) : Bool := P.follows .mixedOrders && P.funcs.toList.all fun fn => match fn.body with | none => true | some c => codeOk fn.ntmps c && !(fn.name == "runtime.NumGoroutine")
theorem fit_of {P : Program} (h : fitB P = true) : Fit P := by
  unfold fitB at h
  rw [Bool.and_eq_true, List.all_eq_true] at h
  refine ⟨h.1, fun f fn c hf hb => ?_⟩
  have := h.2 fn (by rw [Array.mem_toList_iff]; exact Array.mem_of_getElem? hf)
  rw [hb] at this
  simp only [Bool.and_eq_true, Bool.not_eq_true'] at this
  exact this
/-- A function of the program, run with contracts for what it calls. -/
noncomputable def runF (P : Program) (A : Ann) (T : CallF) (n : Nat) (f : FuncId) (fn : Func) (args : List V) (objs : List AO) : Option (V × Option (List AO × Nat)) :=
  match fn.body with
  | none => none
  | some c => match evalC P A T f (baseOf A f objs.length) n c ⟨entryEnv args, [], objs, objs.length⟩ with
    | some (.norm, s) | some (.ret, s) => finish P A f fn objs s
    | _ => none
def Ends (P : Program) (A : Ann) (T : CallF) (f : FuncId) (fn : Func) (args : List V) (objs : List AO) (r : V × Option (List AO × Nat)) : Prop :=
  ∃ c e s, fn.body = some c ∧ (e = .norm ∨ e = .ret) ∧ EvC P A T f (baseOf A f objs.length) c ⟨entryEnv args, [], objs, objs.length⟩ (e, s) ∧ finish P A f fn objs s = some r
theorem Ends.run {P : Program} {A : Ann} {T : CallF} {f : FuncId} {fn : Func} {args : List V} {objs : List AO} {r : V × Option (List AO × Nat)} (n : Nat) (h : runF P A T n f fn args objs = some r) : Ends P A T f fn args objs r := by
  unfold runF at h
  split at h
  · cases h
  rename_i c hc
  split at h
  · rename_i s hs; exact ⟨c, .norm, s, hc, .inl rfl, ⟨n, hs⟩, h⟩
  · rename_i s hs; exact ⟨c, .ret, s, hc, .inr rfl, ⟨n, hs⟩, h⟩
  · cases h
theorem baseOf_own {A : Ann} {f : FuncId} {n : Nat} (h : A.keep f = false) : baseOf A f n = n := by unfold baseOf; rw [h]; rfl
theorem baseOf_keep {A : Ann} {f : FuncId} {n : Nat} (h : A.keep f = true) : baseOf A f n = 0 := by unfold baseOf; rw [h]; rfl
theorem Ends.seg {P : Program} {A : Ann} {T : CallF} {f : FuncId} {fn : Func} {args : List V} {objs : List AO} {r : V × Option (List AO × Nat)} {c : Code} {ex : Ex} {toks' : List Nat} {objs' : List AO} {low' : Nat} (n : Nat) (L' : List (Nat × V)) (hc : fn.body = some c) (hx : ex = .norm ∨ ex = .ret)
    (h : (evalC P A T f objs.length n c ⟨entryEnv args, [], objs, objs.length⟩).map (fun p => (p.1, L'.map (fun q => p.2.env q.1), p.2.toks, p.2.objs, p.2.low)) = some (ex, L'.map (·.2), toks', objs', low'))
    (hf : ∀ e', finish P A f fn objs ⟨upds e' L', toks', objs', low'⟩ = some r) (hk : A.keep f = false := by rfl) : Ends P A T f fn args objs r := by
  obtain ⟨e', he⟩ := Ab.seg n L' h
  exact ⟨c, ex, _, hc, hx, by rw [baseOf_own hk]; exact he, hf e'⟩
/-- A table with one contract more. -/
def bodyOk (A : Ann) (f : FuncId) (fn : Func) : Bool := match fn.body with | some c => drawsOk A f c | none => false
theorem con_by {P : Program} {A : Ann} {T T0 : CallF} {f : FuncId} {fn : Func} {F : Spec} (hP : Fit P) (hT : CallOk P T) (hT0 : CallOk P T0) (hfn : P.funcs[f]? = some fn) (hd : bodyOk A f fn = true) (h : ∀ args objs r, F args objs = some r → Ends P A T0 f fn args objs r) : CallOk P (withF T f F) := by
  intro g args objs v r hr
  unfold withF at hr
  split at hr
  · rename_i hg; subst hg
    obtain ⟨c, e, s, h0, h1, h2, h3⟩ := h args objs _ hr
    exact fun_ok hP hT0 hfn h0 (by unfold bodyOk at hd; rw [h0] at hd; exact hd) h1 (let ⟨n, h2⟩ := h2; .run n _ _ _ h2) h3
  · exact hT g args objs v r hr
theorem con_of {P : Program} {A : Ann} {T : CallF} {f : FuncId} {fn : Func} {F : Spec} (hP : Fit P) (hT : CallOk P T) (hfn : P.funcs[f]? = some fn) (hd : bodyOk A f fn = true) (h : ∀ args objs r, F args objs = some r → Ends P A T f fn args objs r) : CallOk P (withF T f F) := con_by hP hT hT hfn hd h
/-- The same, where pieces of the body are shown by hand. -/
def EndsW (P : Program) (A : Ann) (T : CallF) (f : FuncId) (fn : Func) (args : List V) (objs : List AO) (r : V × Option (List AO × Nat)) : Prop :=
  ∃ c e s, fn.body = some c ∧ (e = .norm ∨ e = .ret) ∧ EvW P A T f (baseOf A f objs.length) c ⟨entryEnv args, [], objs, objs.length⟩ (e, s) ∧ finish P A f fn objs s = some r
theorem con_ofW {P : Program} {A : Ann} {T : CallF} {f : FuncId} {fn : Func} {F : Spec} (hP : Fit P) (hT : CallOk P T) (hfn : P.funcs[f]? = some fn) (hd : bodyOk A f fn = true) (h : ∀ args objs r, F args objs = some r → EndsW P A T f fn args objs r) : CallOk P (withF T f F) := by
  intro g args objs v r hr
  unfold withF at hr
  split at hr
  · rename_i hg; subst hg
    obtain ⟨c, e, s, h0, h1, h2, h3⟩ := h args objs _ hr
    exact fun_ok hP hT hfn h0 (by unfold bodyOk at hd; rw [h0] at hd; exact hd) h1 h2 h3
  · exact hT g args objs v r hr
/-! parts of code, by their places -/
def cA : Code → Code | .seq x _ => x | .cond _ x _ => x | .block _ x => x | .loop x => x | c => c
def cB : Code → Code | .seq _ y => y | .cond _ _ y => y | c => c
end Go.Ab
namespace Go.Ab
section
variable {P : Program} {A : Ann} {T : CallF} {f : FuncId} {base : Nat} {c x y : Code} {s s1 : St} {Q : Ex → St → Prop}
/-- The code ends, and where it ends Q holds. -/
def To (P : Program) (A : Ann) (T : CallF) (f : FuncId) (base : Nat) (c : Code) (s : St) (Q : Ex → St → Prop) : Prop := ∃ e s', EvC P A T f base c s (e, s') ∧ Q e s'
theorem To.run (n : Nat) (h : match evalC P A T f base n c s with | some p => Q p.1 p.2 | none => False) : To P A T f base c s Q := by
  split at h
  · rename_i p hp; exact ⟨p.1, p.2, ⟨n, hp⟩, h⟩
  · exact h.elim
theorem To.mono {R : Ex → St → Prop} (h : To P A T f base c s Q) (hq : ∀ e s, Q e s → R e s) : To P A T f base c s R := by
  obtain ⟨e, s', h1, h2⟩ := h; exact ⟨e, s', h1, hq e s' h2⟩
def Ex.andThen (e : Ex) (p q : Prop) : Prop := match e with | .norm => p | _ => q
@[simp] theorem Ex.andThen_norm (p q : Prop) : Ex.andThen .norm p q = p := rfl
@[simp] theorem Ex.andThen_ret (p q : Prop) : Ex.andThen .ret p q = q := rfl
@[simp] theorem Ex.andThen_exit (i : Nat) (p q : Prop) : Ex.andThen (.exit i) p q = q := rfl
theorem To.seq (h : To P A T f base x s (fun e s1 => e.andThen (To P A T f base y s1 Q) (Q e s1))) : To P A T f base (.seq x y) s Q := by
  obtain ⟨e, s1, h1, h2⟩ := h
  cases e with
  | norm => obtain ⟨e, s', k1, k2⟩ := h2; exact ⟨e, s', EvC.seq h1 k1, k2⟩
  | ret => exact ⟨_, _, EvC.seq_out h1 (by simp), h2⟩
  | exit id => exact ⟨_, _, EvC.seq_out h1 (by simp), h2⟩
theorem To.cond {t : Bool} {o : Operand} (ht : opd s.env o = .bool t) (h1 : t = true → To P A T f base x s Q) (h2 : t = false → To P A T f base y s Q) : To P A T f base (.cond o x y) s Q := by
  cases t
  · obtain ⟨e, s', k1, k2⟩ := h2 rfl; exact ⟨e, s', EvC.cond ht k1, k2⟩
  · obtain ⟨e, s', k1, k2⟩ := h1 rfl; exact ⟨e, s', EvC.cond ht k1, k2⟩
def Ex.leave (id : Nat) : Ex → Ex | .exit i => if i = id then .norm else .exit i | e => e
theorem To.block {id : Nat} (h : To P A T f base x s (fun e s1 => Q (e.leave id) s1)) : To P A T f base (.block id x) s Q := by
  obtain ⟨e, s', k1, k2⟩ := h
  exact ⟨_, s', EvC.block k1, by cases e <;> exact k2⟩
theorem To.loop (h : To P A T f base x s (fun e s1 => e.andThen (To P A T f base (.loop x) s1 Q) (Q e s1))) : To P A T f base (.loop x) s Q := by
  obtain ⟨e, s1, h1, h2⟩ := h
  cases e with
  | norm => obtain ⟨e, s', k1, k2⟩ := h2; exact ⟨e, s', EvC.loop_next h1 k1, k2⟩
  | ret => exact ⟨_, _, EvC.loop_out h1 (by simp), h2⟩
  | exit id => exact ⟨_, _, EvC.loop_out h1 (by simp), h2⟩
theorem Ends.to {fn : Func} {args : List V} {objs : List AO} {r : V × Option (List AO × Nat)} (hb : fn.body = some c) (h : To P A T f objs.length c ⟨entryEnv args, [], objs, objs.length⟩ (fun e s => (e = .norm ∨ e = .ret) ∧ finish P A f fn objs s = some r)) (hk : A.keep f = false := by rfl) : Ends P A T f fn args objs r := by
  obtain ⟨e, s', h1, h2, h3⟩ := h
  exact ⟨c, e, s', hb, h2, by rw [baseOf_own hk]; exact h1, h3⟩
/-- Of a function that hands out all its objects. -/
theorem Ends.toK {fn : Func} {args : List V} {objs : List AO} {r : V × Option (List AO × Nat)} (hb : fn.body = some c) (hk : A.keep f = true) (h : To P A T f 0 c ⟨entryEnv args, [], objs, objs.length⟩ (fun e s => (e = .norm ∨ e = .ret) ∧ finish P A f fn objs s = some r)) : Ends P A T f fn args objs r := by
  obtain ⟨e, s', h1, h2, h3⟩ := h
  exact ⟨c, e, s', hb, h2, by rw [baseOf_keep hk]; exact h1, h3⟩
end
end Go.Ab
