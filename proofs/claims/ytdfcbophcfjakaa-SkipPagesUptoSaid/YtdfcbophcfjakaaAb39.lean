import Derived.Test.YtdfcbophcfjakaaAb38
set_option linter.unusedSimpArgs false
set_option linter.unusedVariables false
set_option linter.unusedSectionVars false
/- The closure that yields, and the statement over it. -/
namespace Go.Ab
/-- What a piece of a closure's code does that may yield: how it ends, where, and what jump a round left behind. -/
structure SemL (P : Program) (A : Ann) (T : CallF) (f : FuncId) (base : Nat) (L : Lp) (Y : Rd) (c : Code) (s : St) (r : Ex × St × Ex) : Prop where
  low : LowOk base s.objs s.low r.2.1.objs r.2.1.low
  run : ∀ (n : Nat) (G1 : Gh) (W1 : World) (objs1 : List AO) (a : Act) (w : World) (Q : Exit → Act → World → Prop), RoundOk P L base Y G1 objs1 W1 → (∀ b x, G1.st b x → b < W1.heap.size) → codeOk n c = true → In n G1 W1 objs1 base s a w →
    (∀ a' w', In n G1 (L.at (jOf r.2.2) W1) objs1 base r.2.1 a' w' → Q r.1.out a' w') → c.wp P Q a w
structure SemR (P : Program) (A : Ann) (T : CallF) (f : FuncId) (base : Nat) (L : Lp) (Y : Rd) (c : Code) (s : St) (r : Ex × St × Ex) : Prop where
  low : LowOk base s.objs s.low r.2.1.objs r.2.1.low
  run : ∃ k, ∀ (n : Nat) (G1 : Gh) (W1 : World) (objs1 : List AO) (a : Act) (w : World) (Q : Exit → Act → World → Prop), RoundOk P L base Y G1 objs1 W1 → (∀ b x, G1.st b x → b < W1.heap.size) → codeOk n c = true → In n G1 W1 objs1 base s a w →
    (∀ a' w', In n G1 (L.at (jOf r.2.2) W1) objs1 base r.2.1 a' w' → Q r.1.out a' w') → Code.rounds P c Q k a w
def YLow (base : Nat) (Y : Rd) : Prop := ∀ xs objs e objs' low', Y xs objs e objs' low' → LowOk base objs objs.length objs' low'
section
variable {P : Program} {A : Ann} {T : CallF} {f : FuncId} {base : Nat} {L : Lp} {Y : Rd} {c x y : Code} {s s1 s' : St} {e j : Ex} {r : Ex × St × Ex} {Q : Ex → St → Ex → Prop}
theorem roundY_low {P : Program} {A : Ann} {T : CallF} {f : FuncId} {base : Nat} {env : Nat → V} {ps : List Nat} {assign body : Code} (hc : CallOk P T) : YLow base (roundY P A T f base env ps assign body) := by
  rintro xs objs e objs' low' ⟨-, s1, s2, h1, h2, rfl, rfl⟩
  exact (h1.low hc).trans (h2.low hc)
theorem SemL.of (h : SemC P A T f base c s (e, s')) : SemL P A T f base L Y c s (e, s', .norm) := ⟨h.low, fun n G1 W1 objs1 a w Q _ _ h1 h2 h3 => h.run n G1 W1 objs1 a w Q h1 h2 h3⟩
theorem SemL.seq (h : SemL P A T f base L Y x s (.norm, s1, .norm)) (k : SemL P A T f base L Y y s1 r) : SemL P A T f base L Y (.seq x y) s r :=
  ⟨h.low.trans k.low, fun n G1 W1 objs1 a w Q hR hl h1 h2 h3 => by
    simp only [codeOk, Bool.and_eq_true] at h1
    exact wp_seq (h.run n G1 W1 objs1 a w _ hR hl h1.1 h2 fun a' w' hF => k.run n G1 W1 objs1 a' w' Q hR hl h1.2 hF h3)⟩
theorem SemL.seq_done (h : SemL P A T f base L Y x s (.norm, s1, j)) (k : SemC P A T f base y s1 (e, s')) : SemL P A T f base L Y (.seq x y) s (e, s', j) :=
  ⟨h.low.trans k.low, fun n G1 W1 objs1 a w Q hR hl h1 h2 h3 => by
    simp only [codeOk, Bool.and_eq_true] at h1
    exact wp_seq (h.run n G1 W1 objs1 a w _ hR hl h1.1 h2 fun a' w' hF => k.run n G1 _ objs1 a' w' Q h1.2 hF h3)⟩
theorem SemL.seq_out (h : SemL P A T f base L Y x s (e, s1, j)) (he : e ≠ .norm) : SemL P A T f base L Y (.seq x y) s (e, s1, j) :=
  ⟨h.low, fun n G1 W1 objs1 a w Q hR hl h1 h2 h3 => by
    simp only [codeOk, Bool.and_eq_true] at h1
    refine wp_seq (h.run n G1 W1 objs1 a w _ hR hl h1.1 h2 fun a' w' hF => ?_)
    cases e with
    | norm => exact absurd rfl he
    | ret => exact h3 a' w' hF
    | exit id => exact h3 a' w' hF⟩
theorem SemL.block {id : Nat} (h : SemL P A T f base L Y x s (e, s1, j)) : SemL P A T f base L Y (.block id x) s (leaveE id e, s1, j) :=
  ⟨h.low, fun n G1 W1 objs1 a w Q hR hl h1 h2 h3 => by
    simp only [codeOk] at h1
    refine wp_block (h.run n G1 W1 objs1 a w _ hR hl h1 h2 fun a' w' hF => ?_)
    have := h3 a' w' hF
    cases e with
    | norm => exact this
    | ret => exact this
    | exit i =>
      simp only [Ex.out, Exit.inBlock]
      simp only [leaveE] at this
      by_cases hi : i = id
      · rw [if_pos hi] at this ⊢; exact this
      · rw [if_neg hi] at this ⊢; exact this⟩
theorem SemL.cond {o : Operand} {t : Bool} (ht : opd s.env o = .bool t) (h : SemL P A T f base L Y (if t then x else y) s r) : SemL P A T f base L Y (.cond o x y) s r :=
  ⟨h.low, fun n G1 W1 objs1 a w Q hR hl h1 h2 h3 => by
    simp only [codeOk, Bool.and_eq_true] at h1
    obtain ⟨G, tl, hF⟩ := h2
    have hx := opd_vr hF.env o
    rw [ht] at hx
    refine wp_cond hx.bool_inv (h.run n G1 W1 objs1 a w Q hR hl ?_ ⟨G, tl, hF⟩ h3)
    cases t
    · exact h1.2
    · exact h1.1⟩
theorem SemR.next (h : SemL P A T f base L Y x s (.norm, s1, .norm)) (k : SemR P A T f base L Y x s1 r) : SemR P A T f base L Y x s r := by
  obtain ⟨kk, hk⟩ := k.run
  exact ⟨h.low.trans k.low, kk + 1, fun n G1 W1 objs1 a w Q hR hl h1 h2 h3 => h.run n G1 W1 objs1 a w _ hR hl h1 h2 fun a' w' hF => hk n G1 W1 objs1 a' w' Q hR hl h1 hF h3⟩
theorem SemR.out (h : SemL P A T f base L Y x s (e, s1, j)) (he : e ≠ .norm) : SemR P A T f base L Y x s (e, s1, j) :=
  ⟨h.low, 1, fun n G1 W1 objs1 a w Q hR hl h1 h2 h3 => h.run n G1 W1 objs1 a w _ hR hl h1 h2 fun a' w' hF => by
    cases e with
    | norm => exact absurd rfl he
    | ret => exact h3 a' w' hF
    | exit id => exact h3 a' w' hF⟩
theorem SemL.loop (h : SemR P A T f base L Y x s r) : SemL P A T f base L Y (.loop x) s r := by
  obtain ⟨k, hk⟩ := h.run
  exact ⟨h.low, fun n G1 W1 objs1 a w Q hR hl h1 h2 h3 => wp_loop_rounds k (hk n G1 W1 objs1 a w Q hR hl (by simpa [codeOk] using h1) h2 h3)⟩
def ToL (P : Program) (A : Ann) (T : CallF) (f : FuncId) (base : Nat) (L : Lp) (Y : Rd) (c : Code) (s : St) (Q : Ex → St → Ex → Prop) : Prop := ∃ e s' j, SemL P A T f base L Y c s (e, s', j) ∧ Q e s' j
/-- What is wanted behind the first of two. -/
def NextL (P : Program) (A : Ann) (T : CallF) (f : FuncId) (base : Nat) (L : Lp) (Y : Rd) (y : Code) (Q : Ex → St → Ex → Prop) : Ex → St → Ex → Prop := fun e s j => match j with
  | .norm => e.andThen (ToL P A T f base L Y y s Q) (Q e s .norm)
  | j => e.andThen (ToS P A T f base y s (fun e s2 => Q e s2 j)) (Q e s j)
theorem ToL.of (h : ToS P A T f base c s (fun e s' => Q e s' .norm)) : ToL P A T f base L Y c s Q := by
  obtain ⟨e, s', h, q⟩ := h
  exact ⟨e, s', .norm, .of h, q⟩
theorem ToL.mono {R : Ex → St → Ex → Prop} (h : ToL P A T f base L Y c s R) (k : ∀ e s j, R e s j → Q e s j) : ToL P A T f base L Y c s Q := by
  obtain ⟨e, s', j, h, q⟩ := h
  exact ⟨e, s', j, h, k _ _ _ q⟩
theorem ToL.seq (h : ToL P A T f base L Y x s (NextL P A T f base L Y y Q)) : ToL P A T f base L Y (.seq x y) s Q := by
  obtain ⟨e, s1, j, h, q⟩ := h
  cases e with
  | norm =>
    cases j with
    | norm => obtain ⟨e, s', j, k, q⟩ := q; exact ⟨e, s', j, .seq h k, q⟩
    | ret => obtain ⟨e, s', k, q⟩ := q; exact ⟨e, s', _, .seq_done h k, q⟩
    | exit id => obtain ⟨e, s', k, q⟩ := q; exact ⟨e, s', _, .seq_done h k, q⟩
  | ret => exact ⟨_, _, _, .seq_out h (by simp), by cases j <;> exact q⟩
  | exit id => exact ⟨_, _, _, .seq_out h (by simp), by cases j <;> exact q⟩
theorem ToL.block {id : Nat} (h : ToL P A T f base L Y x s (fun e s1 j => Q (leaveE id e) s1 j)) : ToL P A T f base L Y (.block id x) s Q := by
  obtain ⟨e, s1, j, h, q⟩ := h
  exact ⟨_, _, _, .block h, q⟩
theorem ToL.up (N : Nat) (I : Nat → St → Prop) (h0 : I 0 s) (hs : ∀ i s, i ≤ N → I i s → ToL P A T f base L Y x s (fun e s1 j => (e = .norm ∧ j = .norm ∧ i < N ∧ I (i + 1) s1) ∨ (e ≠ .norm ∧ Q e s1 j))) : ToL P A T f base L Y (.loop x) s Q := by
  have : ∀ k i s, i + k = N → I i s → ∃ e s' j, SemR P A T f base L Y x s (e, s', j) ∧ Q e s' j := by
    intro k
    induction k with
    | zero =>
      intro i s hi h
      obtain ⟨e, s1, j, h1, h2⟩ := hs i s (by omega) h
      rcases h2 with ⟨-, -, h3, -⟩ | ⟨h3, h4⟩
      · omega
      · exact ⟨e, s1, j, .out h1 h3, h4⟩
    | succ k ih =>
      intro i s hi h
      obtain ⟨e, s1, j, h1, h2⟩ := hs i s (by omega) h
      rcases h2 with ⟨rfl, rfl, h3, h4⟩ | ⟨h3, h4⟩
      · obtain ⟨e, s', j, k1, k2⟩ := ih (i + 1) s1 (by omega) h4
        exact ⟨e, s', j, .next h1 k1, k2⟩
      · exact ⟨e, s1, j, .out h1 h3, h4⟩
  obtain ⟨e, s', j, h1, h2⟩ := this N 0 s (by omega) h0
  exact ⟨e, s', j, .loop h1, h2⟩
theorem evalOps_runT {ops : Array Oper} : ∀ (k i : Nat) (s : St), i + k ≤ ops.size → evalOps P A T f base ops (List.range' i k) s = runL P A T f base ops ((ops.toList.drop i).take k) s := by
  intro k
  induction k with
  | zero => intro i s h; rfl
  | succ k ih =>
    intro i s h
    have hlt : i < ops.toList.length := by simp; omega
    rw [List.range'_succ, List.drop_eq_getElem_cons hlt, List.take_succ_cons]
    simp only [evalOps, runL, stepOp]
    have e : ops[i]? = some (ops.toList[i]'hlt) := by rw [Array.getElem?_eq_getElem (by simpa using hlt)]; simp
    rw [e]
    simp only
    cases hr : (opR P A T f base ops (ops.toList[i]'hlt) s).map (s.put (ops.toList[i]'hlt).dst) with
    | none => rfl
    | some s1 => exact ih (i + 1) s1 (by omega)
/-- A region with one call of yield in it. -/
theorem ToL.yield {id : Nat} {l1 l2 : List Oper} {ops : Array Oper} {d : Option Nat} {y : Operand} {as : Array Operand} {ats : Array TypeId} {ty : TypeId} {pos : String} {af : Array Edge} (hc : CallOk P T) (hY : YLow base Y) (hl : ops.toList = l1 ++ ⟨d, .call ⟨.value y, as, ats⟩, ty, pos, af, none⟩ :: l2)
    (h : Ops P A T f base ops l1 s (fun _ s1 => opd s1.env y = .fn (.yield L.l) [] [] ∧ ∃ j objs' low', Y (as.toList.map fun x => demote (opd s1.env x)) s1.objs j objs' low' ∧
      Ops P A T f base ops l2 (s1.put d (.bool (jOf j).isNone, s1.toks, objs', if low' < s1.low then low' else s1.low)) (fun e s3 => Q e s3 j))) : ToL P A T f base L Y (.region id ops false) s Q := by
  obtain ⟨s1, h1, hy, j, objs', low', hYY, s3, h3, hq⟩ := h
  refine ⟨.norm, s3, j, ?_, hq⟩
  have hsz : ops.size = l1.length + (l2.length + 1) := by rw [← Array.length_toList, hl]; simp
  have e1 : evalOps P A T f base ops (List.range' 0 l1.length) s = some s1 := by
    rw [evalOps_runT _ _ _ (by omega), hl]; simpa using h1
  have e3 : evalOps P A T f base ops (List.range' (l1.length + 1) l2.length) (s1.put d (.bool (jOf j).isNone, s1.toks, objs', if low' < s1.low then low' else s1.low)) = some s3 := by
    rw [evalOps_runL _ _ _ (by omega), hl]
    simpa using h3
  have eo : ops[l1.length]? = some ⟨d, .call ⟨.value y, as, ats⟩, ty, pos, af, none⟩ := by
    rw [← Array.getElem?_toList, hl]; simp
  have hr : List.range ops.size = List.range' 0 l1.length ++ l1.length :: List.range' (l1.length + 1) l2.length := by
    rw [List.range_eq_range', hsz, show l1.length :: List.range' (l1.length + 1) l2.length = List.range' (0 + 1 * l1.length) (l2.length + 1) by simp [List.range'_succ], List.range'_append]
  refine ⟨?_, fun n G1 W1 objs1 a w Q hR hl0 h1' h2 h3' => ?_⟩
  · exact (ops_low hc _ _ _ e1).trans (LowOk.trans ((hY _ _ _ _ _ hYY).after (low := s1.low)) (ops_low hc _ _ _ e3))
  simp only [codeOk] at h1'
  refine (wpIn_wide (n := 0)).1 (wpIn_region (F := FR none) ?_)
  rw [hr]
  refine ops_in (r := none) (m := 0) hc h1' (fun a' w' hF => ?_) _ s a w h2 e1
  rw [wpOpsIn_cons]
  unfold wpOpIn
  rw [eo]
  simp only
  have hw : Region.wanted ⟨d, .call ⟨.value y, as, ats⟩, ty, pos, af, none⟩ (yielded ops a'.tmps) = true := rfl
  rw [if_pos hw]
  refine yield_in (o := ⟨d, .call ⟨.value y, as, ats⟩, ty, pos, af, none⟩) hF hl0 hR rfl hy hYY (dsts_get h1' eo) fun a2 w2 hF2 => ?_
  have := ops_in (r := none) (m := 0) (Q := Q) (l2 := []) hc h1' (fun a' w' hF => h3' a' w' hF) _ _ a2 w2 hF2 e3
  rwa [List.append_nil] at this
end
end Go.Ab
