import Derived.Test.YtdfcbophcfjakaaAb24
set_option linter.unusedSimpArgs false
set_option linter.unusedVariables false
set_option linter.unusedSectionVars false
/- Functions of which a piece is shown at the machine by hand. -/
namespace Go.Ab
section
variable {P : Program} {A : Ann} {T : CallF} {f : FuncId} {base : Nat} {c x y : Code} {s s1 : St} {Q : Ex → St → Prop}
def ToW (P : Program) (A : Ann) (T : CallF) (f : FuncId) (base : Nat) (c : Code) (s : St) (Q : Ex → St → Prop) : Prop := ∃ e s', EvW P A T f base c s (e, s') ∧ Q e s'
theorem ToW.of (h : To P A T f base c s Q) : ToW P A T f base c s Q := by
  obtain ⟨e, s', ⟨n, h⟩, q⟩ := h
  exact ⟨e, s', .run n _ _ _ h, q⟩
theorem ToW.cut {r : Ex × St} (h : CutOk P A T f base c s r) (hq : Q r.1 r.2) : ToW P A T f base c s Q := ⟨r.1, r.2, .cut h, hq⟩
theorem ToW.mono {R : Ex → St → Prop} (h : ToW P A T f base c s Q) (hq : ∀ e s, Q e s → R e s) : ToW P A T f base c s R := by
  obtain ⟨e, s', h1, h2⟩ := h; exact ⟨e, s', h1, hq e s' h2⟩
theorem ToW.seq (h : ToW P A T f base x s (fun e s1 => e.andThen (ToW P A T f base y s1 Q) (Q e s1))) : ToW P A T f base (.seq x y) s Q := by
  obtain ⟨e, s1, h1, h2⟩ := h
  cases e with
  | norm => obtain ⟨e, s', k1, k2⟩ := h2; exact ⟨e, s', .seq h1 k1, k2⟩
  | ret => exact ⟨_, _, .seq_out h1 (by simp), h2⟩
  | exit id => exact ⟨_, _, .seq_out h1 (by simp), h2⟩
theorem EndsW.go {fn : Func} {args : List V} {objs : List AO} {r : V × Option (List AO × Nat)} (rs : List ResultVar) (hb : fn.body = some c) (hr : fn.results.toList = rs) (h : ToW P A T f objs.length c ⟨entryEnv args, [], objs, objs.length⟩ (FinQ P A f rs objs r)) (hk : A.keep f = false := by rfl) : EndsW P A T f fn args objs r := by
  obtain ⟨e, s, h1, h2⟩ := h
  refine ⟨c, e, s, hb, h2.1, by rw [baseOf_own hk]; exact h1, ?_⟩
  subst hr
  exact h2.2
end
end Go.Ab
