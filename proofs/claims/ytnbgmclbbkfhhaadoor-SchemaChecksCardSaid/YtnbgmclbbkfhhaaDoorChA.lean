import Derived.Test.YtnbgmclbbkfhhaaDoorScD
import Derived.Test.YtnbgmclbbkfhhaaDoorAb35
set_option linter.unusedSimpArgs false
set_option linter.unusedVariables false
set_option linter.unusedSectionVars false
set_option maxRecDepth 20000
set_option maxHeartbeats 1000000
namespace Go.Proofs.YtnbgmclbbkfhhaaDoor.B
open Go Go.Ab
noncomputable def k_aliveA : Ab.Spec := anyF k_alive
noncomputable def T_aliveA : CallF := withF T_alive 9 k_aliveA
theorem T_aliveA_ok : CallOk Tryd.prog T_aliveA := con_any T_alive_ok (fun _ _ => rfl)
theorem aliveA (O : List AO) : k_aliveA [] O = some (.bool true, none) := anyF_of rfl rfl
theorem old_nil (O : List AO) : Old [] O := Old.ext [] O
theorem tw_of {objs O : List AO} {x : Ce} (h : ceOk objs x = true) (ho : Old objs O) : tw O x = tw objs x := by unfold tw; rw [(ce_old h ho).2]
theorem twm_of {objs O : List AO} {row : List Ce} (h : ∀ x ∈ row, ceOk objs x = true) (ho : Old objs O) : row.map (tw O) = row.map (tw objs) := List.map_congr_left fun x hx => tw_of (h x hx) ho

/-! the region that hands two twins to two new boxes, in whatever order -/
noncomputable def at3 : Code → Array Oper
  | .seq _ (.seq _ (.seq (.region _ ops _) _)) => ops
  | _ => #[]
noncomputable def ops3 : Array Oper := at3 (Tryd.f3.body.getD .skip)
noncomputable def edg (o : Oper) : List Nat := (o.after.toList.filter fun e => Region.binds .any e).map (·.on)
theorem edg_of {o : Oper} {l : List Nat} (h : edg o = l) {ls : Array Bool} (ha : ∀ e ∈ o.after, Region.binds .any e = true → ls.getD e.on false = true) : ∀ k ∈ l, ls.getD k false = true := fun k hk => by
  rw [← h] at hk
  unfold edg at hk
  obtain ⟨e, he, rfl⟩ := List.mem_map.1 hk
  obtain ⟨h1, h2⟩ := List.mem_filter.1 he
  exact ha e (by simpa using h1) h2
theorem edg_to {o : Oper} {l : List Nat} (h : edg o = l) {j : Nat} (hl : ∀ k ∈ l, k < j) : ∀ e ∈ o.after, Region.binds .any e = true → e.on < j := fun e he hb => hl _ (by
  rw [← h]
  exact List.mem_map.2 ⟨e, List.mem_filter.2 ⟨by simpa using he, hb⟩, rfl⟩)
def OpAt (i : Nat) (d : Option Nat) (op : Op) (l : List Nat) : Prop := ∃ o, ops3[i]? = some o ∧ o.dst = d ∧ o.op = op ∧ o.guard = none ∧ edg o = l
theorem opAt_of {i : Nat} {d : Option Nat} {op : Op} {l : List Nat} (h : (ops3[i]?).map (fun o => (o.dst, o.op, o.guard, edg o)) = some (d, op, none, l)) : OpAt i d op l := by
  obtain ⟨o, ho, he⟩ := Option.map_eq_some_iff.1 h
  simp only [Prod.mk.injEq] at he
  exact ⟨o, ho, he.1, he.2.1, he.2.2.1, he.2.2.2⟩
theorem op3_0 : OpAt 0 (some 9) (.load 24 (.tmp 2)) [] := opAt_of (by kernel_rfl)
theorem op3_1 : OpAt 1 (some 10) (.call ⟨.value (.func 10), #[.tmp 9], #[24]⟩) [0] := opAt_of (by kernel_rfl)
theorem op3_2 : OpAt 2 (some 11) (.load 28 (.tmp 3)) [] := opAt_of (by kernel_rfl)
theorem op3_3 : OpAt 3 (some 12) (.call ⟨.value (.func 11), #[.tmp 11], #[28]⟩) [2, 1] := opAt_of (by kernel_rfl)
theorem op3_4 : OpAt 4 (some 5) (.alloc 24) [] := opAt_of (by kernel_rfl)
theorem op3_5 : OpAt 5 (some 6) (.alloc 28) [] := opAt_of (by kernel_rfl)
theorem op3_6 : OpAt 6 none (.store 24 (.tmp 5) (.tmp 10)) [4, 1, 3, 0, 1, 4, 5] := opAt_of (by kernel_rfl)
theorem op3_7 : OpAt 7 none (.store 28 (.tmp 6) (.tmp 12)) [5, 3, 6, 0, 1, 2, 3, 4, 5, 6] := opAt_of (by kernel_rfl)
theorem ops3_size : ops3.size = 8 := by kernel_rfl
def EnvC (e0 : Nat → V) (v9 v10 v11 v12 : V) (m : Nat) (b0 b1 b2 b3 b4 b5 : Bool) : Nat → V := fun d =>
  if d = 9 ∧ b0 = true then v9 else if d = 10 ∧ b1 = true then v10 else if d = 11 ∧ b2 = true then v11 else if d = 12 ∧ b3 = true then v12 else if d = 5 ∧ b4 = true then .ptr m 0 0 else if d = 6 ∧ b5 = true then .ptr (m + b4.toNat) 0 0 else e0 d
section
variable {e0 : Nat → V} {v9 v10 v11 v12 : V} {m : Nat} {b0 b1 b2 b3 b4 b5 : Bool}
theorem envC_9 : Ab.put (EnvC e0 v9 v10 v11 v12 m false b1 b2 b3 b4 b5) (some 9) v9 = EnvC e0 v9 v10 v11 v12 m true b1 b2 b3 b4 b5 := by
  funext d; simp only [Ab.put, upd, EnvC]; by_cases h : d = 9 <;> simp [h]
theorem envC_10 : Ab.put (EnvC e0 v9 v10 v11 v12 m b0 false b2 b3 b4 b5) (some 10) v10 = EnvC e0 v9 v10 v11 v12 m b0 true b2 b3 b4 b5 := by
  funext d; simp only [Ab.put, upd, EnvC]; by_cases h : d = 10 <;> simp [h]
theorem envC_11 : Ab.put (EnvC e0 v9 v10 v11 v12 m b0 b1 false b3 b4 b5) (some 11) v11 = EnvC e0 v9 v10 v11 v12 m b0 b1 true b3 b4 b5 := by
  funext d; simp only [Ab.put, upd, EnvC]; by_cases h : d = 11 <;> simp [h]
theorem envC_12 : Ab.put (EnvC e0 v9 v10 v11 v12 m b0 b1 b2 false b4 b5) (some 12) v12 = EnvC e0 v9 v10 v11 v12 m b0 b1 b2 true b4 b5 := by
  funext d; simp only [Ab.put, upd, EnvC]; by_cases h : d = 12 <;> simp [h]
theorem envC_5 : Ab.put (EnvC e0 v9 v10 v11 v12 m b0 b1 b2 b3 false false) (some 5) (.ptr m 0 0) = EnvC e0 v9 v10 v11 v12 m b0 b1 b2 b3 true false := by
  funext d; simp only [Ab.put, upd, EnvC]; by_cases h : d = 5 <;> simp [h]
theorem envC_6 : Ab.put (EnvC e0 v9 v10 v11 v12 m b0 b1 b2 b3 b4 false) (some 6) (.ptr (m + b4.toNat) 0 0) = EnvC e0 v9 v10 v11 v12 m b0 b1 b2 b3 b4 true := by
  funext d; simp only [Ab.put, upd, EnvC]; by_cases h : d = 6 <;> simp [h]
theorem envC_swap : (fun d => if d = 5 then V.ptr m 0 0 else if d = 6 then V.ptr (m + 1) 0 0 else Ab.put (EnvC e0 v9 v10 v11 v12 m b0 b1 b2 b3 false true) (some 5) (.ptr (m + 1) 0 0) d) = EnvC e0 v9 v10 v11 v12 m b0 b1 b2 b3 true true := by
  funext d; simp only [Ab.put, upd, EnvC]
  by_cases h : d = 5
  · simp [h]
  · by_cases h2 : d = 6 <;> simp [h, h2]
theorem envC_none {v : V} {e : Nat → V} : Ab.put e none v = e := rfl
theorem envC_ref {M : Nat} (h0 : ∀ d, Ab.noref M (e0 d) = true) (h9 : Ab.noref M v9 = true) (h10 : Ab.noref M v10 = true) (h11 : Ab.noref M v11 = true) (h12 : Ab.noref M v12 = true) : ∀ d, d ≠ 5 → d ≠ 6 → Ab.noref M (EnvC e0 v9 v10 v11 v12 m b0 b1 b2 b3 b4 b5 d) = true := fun d h5 h6 => by
  unfold EnvC
  split
  · exact h9
  split
  · exact h10
  split
  · exact h11
  split
  · exact h12
  rw [if_neg (fun q => h5 q.1), if_neg (fun q => h6 q.1)]
  exact h0 d
end
def ObjC (L : List AO) (c10 c12 z1 z2 : List V) (b4 b5 b6 b7 : Bool) : List AO := L ++ ((if b4 = true then [AO.cells (if b6 = true then c10 else z1) 0] else []) ++ if b5 = true then [AO.cells (if b7 = true then c12 else z2) 0] else [])
theorem reg3 {T : CallF} (hm : Tryd.prog.follows .mixedOrders = true) (hT : CallOk Tryd.prog T) {e0 : Nat → V} {tk : List Nat} {L : List AO} {lw : Nat} {v9 v10 v11 v12 w10 w12 : V} {c10 c12 z1 z2 : List V}
    (x2 : e0 2 = .ptr 0 0 0) (x3 : e0 3 = .ptr 1 0 0) (h9 : ∀ M, loadV Tryd.prog 24 (L ++ M) (.ptr 0 0 0) = some v9) (h11 : ∀ M, loadV Tryd.prog 28 (L ++ M) (.ptr 1 0 0) = some v11) (d9 : demote v9 = v9) (d11 : demote v11 = v11)
    (h10 : ∀ M, T 10 [v9] (L ++ M) = some (w10, none)) (h12 : ∀ M, T 11 [v11] (L ++ M) = some (w12, none)) (n10 : ∀ ws, w10 ≠ .tup ws) (n12 : ∀ ws, w12 ≠ .tup ws) (d10 : demote w10 = v10) (d12 : demote w12 = v12)
    (hz1 : zeroV Tryd.prog 24 = some z1) (hz2 : zeroV Tryd.prog 28 = some z2)
    (s6 : storeO Tryd.prog 24 0 (L ++ [.cells z1 0, .cells z2 0]) lw (.ptr L.length 0 0) (cellsOf (demote v10)) = some (.undef, L ++ [.cells c10 0, .cells z2 0], lw))
    (s7 : storeO Tryd.prog 28 0 (L ++ [.cells c10 0, .cells z2 0]) lw (.ptr (L.length + 1) 0 0) (cellsOf (demote v12)) = some (.undef, L ++ [.cells c10 0, .cells c12 0], lw))
    (hL : ∀ (id : Nat) cs ver, L[id]? = some (AO.cells cs ver) → norefs L.length cs = true) (hmap : ∀ (id : Nat) es, L[id]? ≠ some (AO.map es)) (r1 : norefs L.length z1 = true) (r2 : norefs L.length z2 = true)
    (r0 : ∀ d, Ab.noref L.length (e0 d) = true) (r9 : Ab.noref L.length v9 = true) (r10 : Ab.noref L.length v10 = true) (r11 : Ab.noref L.length v11 = true) (r12 : Ab.noref L.length v12 = true) (hlow : LowOk 0 L lw (L ++ [.cells c10 0, .cells c12 0]) lw) :
    SemC Tryd.prog (annOf [] [] [] false []) T 3 0 (.region 3 ops3 true) ⟨e0, tk, L, lw⟩ (.norm, ⟨EnvC e0 v9 v10 v11 v12 L.length true true true true true true, tk, L ++ [.cells c10 0, .cells c12 0], lw⟩) := by
  refine ⟨hlow, fun n G0 w0 objs0 a w Q hcd hF hQ => ?_⟩
  have hd : dstsOk n ops3 = true := by simpa [codeOk] using hcd
  obtain ⟨o0, p0, q0, y0, u0, g0⟩ := op3_0
  obtain ⟨o1, p1, q1, y1, u1, g1⟩ := op3_1
  obtain ⟨o2, p2, q2, y2, u2, g2⟩ := op3_2
  obtain ⟨o3, p3, q3, y3, u3, g3⟩ := op3_3
  obtain ⟨o4, p4, q4, y4, u4, g4⟩ := op3_4
  obtain ⟨o5, p5, q5, y5, u5, g5⟩ := op3_5
  obtain ⟨o6, p6, q6, y6, u6, g6⟩ := op3_6
  obtain ⟨o7, p7, q7, y7, u7, g7⟩ := op3_7
  have hlen : objs0.length ≤ L.length := by obtain ⟨G, tl, hF⟩ := hF; exact hF.len
  obtain ⟨J, hJ⟩ : ∃ J : Array Bool → Act → World → Prop, J = fun ls a w => ∃ s, In n G0 w0 objs0 0 s a w ∧ s.env = EnvC e0 v9 v10 v11 v12 L.length (ls.getD 0 false) (ls.getD 1 false) (ls.getD 2 false) (ls.getD 3 false) (ls.getD 4 false) (ls.getD 5 false) ∧ s.toks = tk ∧ s.low = lw ∧ s.objs = ObjC L c10 c12 z1 z2 (ls.getD 4 false) (ls.getD 5 false) (ls.getD 6 false) (ls.getD 7 false) := ⟨_, rfl⟩
  have hb : ∀ j o, ops3[j]? = some o → ∀ e ∈ o.after, Region.binds .any e = true → e.on < j := fun j o ho => by
    have hj : j < 8 := by
      rcases Nat.lt_or_ge j 8 with h | h
      · exact h
      · rw [Array.getElem?_eq_none (by rw [ops3_size]; exact h)] at ho; cases ho
    obtain rfl | rfl | rfl | rfl | rfl | rfl | rfl | rfl : j = 0 ∨ j = 1 ∨ j = 2 ∨ j = 3 ∨ j = 4 ∨ j = 5 ∨ j = 6 ∨ j = 7 := by omega
    · rw [p0] at ho; cases ho; exact edg_to g0 (by decide)
    · rw [p1] at ho; cases ho; exact edg_to g1 (by decide)
    · rw [p2] at ho; cases ho; exact edg_to g2 (by decide)
    · rw [p3] at ho; cases ho; exact edg_to g3 (by decide)
    · rw [p4] at ho; cases ho; exact edg_to g4 (by decide)
    · rw [p5] at ho; cases ho; exact edg_to g5 (by decide)
    · rw [p6] at ho; cases ho; exact edg_to g6 (by decide)
    · rw [p7] at ho; cases ho; exact edg_to g7 (by decide)
  have start : J (Array.replicate ops3.size false) a { w with drawn := w.drawn + 1 } := by
    rw [hJ]
    obtain ⟨G, tl, hF⟩ := hF
    refine ⟨_, ⟨G, tl, hF.drawn _⟩, ?_, rfl, rfl, ?_⟩
    · rw [ops3_size]; funext d; simp [EnvC, Array.getD]
    · rw [ops3_size]; simp [ObjC, Array.getD]
  refine wp_region_draw fun t => ?_
  simp only [Region.schedule, hm, Bool.true_or, if_true]
  refine wpAny_sound ops3.size t _ a _ (any_wpJ J hb ?_ ?_ ops3.size _ a _ (by simp) ?_ (by rw [rest_all]; simp) start)
  case refine_2 =>
    intro ls a w hsz hall hj
    rw [hJ] at hj
    obtain ⟨s, hs, h1, h2, h3, h4⟩ := hj
    rw [ops3_size] at hall
    rw [hall 0 (by decide), hall 1 (by decide), hall 2 (by decide), hall 3 (by decide), hall 4 (by decide), hall 5 (by decide)] at h1
    rw [hall 4 (by decide), hall 5 (by decide), hall 6 (by decide), hall 7 (by decide)] at h4
    obtain ⟨env, toks, objs, low⟩ := s
    simp only at h1 h2 h3 h4
    subst h1 h2 h3
    rw [h4] at hs
    exact hQ a w hs
  case refine_3 =>
    intro k o e hk ho he hbb
    have hkl : k < 8 := by
      rcases Nat.lt_or_ge k 8 with h | h
      · exact h
      · rw [Array.getElem?_eq_none (by rw [ops3_size]; exact h)] at ho; cases ho
    rw [ops3_size] at hk
    simp [Array.getD, hkl] at hk
  intro ls i hsz hcl hi a w hj
  obtain ⟨hi0, o, ho, hall⟩ := mem_ready.1 hi
  have hi8 : i < 8 := by
    rcases Nat.lt_or_ge i 8 with h | h
    · exact h
    · rw [Array.getElem?_eq_none (by rw [ops3_size]; exact h)] at ho; cases ho
  rw [ops3_size] at hsz
  have hin : i < ls.size := by omega
  have hf : ls.getD i false = false := by
    rw [Array.getD_eq_getD_getElem?, Array.getElem?_eq_getElem hin] at hi0 ⊢
    exact hi0
  have gs : ∀ k, (ls.setIfInBounds i true).getD k false = if k = i then true else ls.getD k false := fun k => by
    by_cases hk : k = i
    · subst hk; rw [if_pos rfl]; simp [Array.getD, hin]
    · rw [if_neg hk]; exact getD_set_ne false (fun q => hk q.symm)
  rw [hJ] at hj
  obtain ⟨⟨env, toks, objs, low⟩, hs, h1, h2, h3, h4⟩ := hj
  simp only at h1 h2 h3 h4
  subst h1 h2 h3 h4
  generalize hl0 : ls.getD 0 false = l0 at *
  generalize hl1 : ls.getD 1 false = l1 at *
  generalize hl2 : ls.getD 2 false = l2 at *
  generalize hl3 : ls.getD 3 false = l3 at *
  generalize hl4 : ls.getD 4 false = l4 at *
  generalize hl5 : ls.getD 5 false = l5 at *
  generalize hl6 : ls.getD 6 false = l6 at *
  generalize hl7 : ls.getD 7 false = l7 at *
  have J2 : ∀ (s' : St) (a' : Act) (w' : World), In n G0 w0 objs0 0 s' a' w' → s'.env = EnvC e0 v9 v10 v11 v12 L.length ((ls.setIfInBounds i true).getD 0 false) ((ls.setIfInBounds i true).getD 1 false) ((ls.setIfInBounds i true).getD 2 false) ((ls.setIfInBounds i true).getD 3 false) ((ls.setIfInBounds i true).getD 4 false) ((ls.setIfInBounds i true).getD 5 false) → s'.toks = toks → s'.low = low → s'.objs = ObjC L c10 c12 z1 z2 ((ls.setIfInBounds i true).getD 4 false) ((ls.setIfInBounds i true).getD 5 false) ((ls.setIfInBounds i true).getD 6 false) ((ls.setIfInBounds i true).getD 7 false) → J (ls.setIfInBounds i true) a' w' := fun s' a' w' z1 z2 z3 z4 z5 => by rw [hJ]; exact ⟨s', z1, z2, z3, z4, z5⟩
  simp only [gs] at J2
  have hA : (annOf [] [] [] false [] : Ann) = annOf [] [] [] false [] := rfl
  have e2 : ∀ b0 b1 b2 b3 b4 b5, EnvC e0 v9 v10 v11 v12 L.length b0 b1 b2 b3 b4 b5 2 = .ptr 0 0 0 := fun _ _ _ _ _ _ => by simp [EnvC, x2]
  have e3 : ∀ b0 b1 b2 b3 b4 b5, EnvC e0 v9 v10 v11 v12 L.length b0 b1 b2 b3 b4 b5 3 = .ptr 1 0 0 := fun _ _ _ _ _ _ => by simp [EnvC, x3]
  have e9 : ∀ b1 b2 b3 b4 b5, EnvC e0 v9 v10 v11 v12 L.length true b1 b2 b3 b4 b5 9 = v9 := fun _ _ _ _ _ => by simp [EnvC]
  have e11 : ∀ b0 b1 b3 b4 b5, EnvC e0 v9 v10 v11 v12 L.length b0 b1 true b3 b4 b5 11 = v11 := fun _ _ _ _ _ => by simp [EnvC]
  obtain rfl | rfl | rfl | rfl | rfl | rfl | rfl | rfl : i = 0 ∨ i = 1 ∨ i = 2 ∨ i = 3 ∨ i = 4 ∨ i = 5 ∨ i = 6 ∨ i = 7 := by omega
  · rw [hl0] at hf; subst hf
    simp only [hl1, hl2, hl3, hl4, hl5, hl6, hl7] at J2
    refine step_wp (A := annOf [] [] [] false []) (f := 3) hT hd hs (step_load p0 q0 y0 u0 hA (by simp only [e2]; exact h9 _)) fun a' w' hF' => J2 _ a' w' hF' ?_ rfl rfl rfl
    simp only [St.put]; exact envC_9
  · have := edg_of g1 (by rw [p1] at ho; cases ho; exact hall) 0 (by simp)
    rw [hl0] at this; subst this
    rw [hl1] at hf; subst hf
    simp only [hl0, hl2, hl3, hl4, hl5, hl6, hl7] at J2
    refine step_wp (A := annOf [] [] [] false []) (f := 3) hT hd hs (step_call1 p1 q1 y1 u1 hA n10 (by simp only [e9, d9]; exact h10 _)) fun a' w' hF' => J2 _ a' w' hF' ?_ rfl rfl rfl
    simp only [St.put]; rw [d10]; exact envC_10
  · rw [hl2] at hf; subst hf
    simp only [hl0, hl1, hl3, hl4, hl5, hl6, hl7] at J2
    refine step_wp (A := annOf [] [] [] false []) (f := 3) hT hd hs (step_load p2 q2 y2 u2 hA (by simp only [e3]; exact h11 _)) fun a' w' hF' => J2 _ a' w' hF' ?_ rfl rfl rfl
    simp only [St.put]; exact envC_11
  · have := edg_of g3 (by rw [p3] at ho; cases ho; exact hall) 2 (by simp)
    rw [hl2] at this; subst this
    rw [hl3] at hf; subst hf
    simp only [hl0, hl1, hl2, hl4, hl5, hl6, hl7] at J2
    refine step_wp (A := annOf [] [] [] false []) (f := 3) hT hd hs (step_call1 p3 q3 y3 u3 hA n12 (by simp only [e11, d11]; exact h12 _)) fun a' w' hF' => J2 _ a' w' hF' ?_ rfl rfl rfl
    simp only [St.put]; rw [d12]; exact envC_12
  · rw [hl4] at hf; subst hf
    simp only [hl0, hl1, hl2, hl3, hl5, hl6, hl7] at J2
    refine step_wp (A := annOf [] [] [] false []) (f := 3) hT hd hs (step_alloc p4 q4 y4 u4 hA hz1) fun a' w' hF' => ?_
    have b6 : l6 = false := by
      cases l6 with
      | false => rfl
      | true =>
        have := edg_of g6 (fun e he hb => hcl 6 o6 e hl6 p6 he hb) 4 (by simp)
        rw [hl4] at this; cases this
    have b7 : l7 = false := by
      cases l7 with
      | false => rfl
      | true =>
        have := edg_of g7 (fun e he hb => hcl 7 o7 e hl7 p7 he hb) 4 (by simp)
        rw [hl4] at this; cases this
    subst b6 b7
    cases l5 with
    | false => exact J2 _ a' w' hF' (by simp only [St.put, ObjC]; simp [envC_5]) rfl rfl (by simp [St.put, ObjC])
    | true =>
      have hsw := In.swap (L := L) (cA := z2) (cB := z1) (d1 := 5) (d2 := 6) hF' (by simp [St.put, ObjC]) hlen hL r2 r1 hmap (fun d h5 h6 => by
        simp only [St.put, Ab.put, upd]
        rw [if_neg h5]
        exact envC_ref r0 r9 r10 r11 r12 d h5 h6) (by simp [St.put, Ab.put, upd, ObjC]) (by simp [St.put, Ab.put, upd, EnvC]) (by decide)
      exact J2 _ a' w' hsw (by simp [St.put, ObjC]; funext d; simp only [EnvC]; by_cases h : d = 5 <;> by_cases h2 : d = 6 <;> simp [h, h2]) rfl rfl (by simp [ObjC])
  · rw [hl5] at hf; subst hf
    simp only [hl0, hl1, hl2, hl3, hl4, hl6, hl7] at J2
    have b6 : l6 = false := by
      cases l6 with
      | false => rfl
      | true =>
        have := edg_of g6 (fun e he hb => hcl 6 o6 e hl6 p6 he hb) 5 (by simp)
        rw [hl5] at this; cases this
    have b7 : l7 = false := by
      cases l7 with
      | false => rfl
      | true =>
        have := edg_of g7 (fun e he hb => hcl 7 o7 e hl7 p7 he hb) 5 (by simp)
        rw [hl5] at this; cases this
    subst b6 b7
    refine step_wp (A := annOf [] [] [] false []) (f := 3) hT hd hs (step_alloc p5 q5 y5 u5 hA hz2) fun a' w' hF' => J2 _ a' w' hF' ?_ rfl rfl (by cases l4 <;> simp [St.put, ObjC])
    simp only [St.put]
    cases l4 <;> simp [ObjC, ← envC_6]
  · have h := edg_of g6 (by rw [p6] at ho; cases ho; exact hall)
    have a4 := h 4 (by simp)
    have a5 := h 5 (by simp)
    have a1 := h 1 (by simp)
    have b7 : l7 = false := by
      cases l7 with
      | false => rfl
      | true =>
        have := edg_of g7 (fun e he hb => hcl 7 o7 e hl7 p7 he hb) 6 (by simp)
        rw [hf] at this; cases this
    rw [hl4] at a4; rw [hl5] at a5; rw [hl1] at a1; rw [hl6] at hf
    subst a4 a5 a1 hf b7
    simp only [hl0, hl1, hl2, hl3, hl4, hl5, hl7] at J2
    refine step_wp (A := annOf [] [] [] false []) (f := 3) hT hd hs (step_store (r := (.undef, L ++ [.cells c10 0, .cells z2 0], low)) p6 q6 y6 u6 hA ?_) fun a' w' hF' => J2 _ a' w' hF' rfl rfl rfl (by simp [St.put, ObjC])
    have x5 : EnvC e0 v9 v10 v11 v12 L.length l0 true l2 l3 true true 5 = .ptr L.length 0 0 := by simp [EnvC]
    have x10 : EnvC e0 v9 v10 v11 v12 L.length l0 true l2 l3 true true 10 = v10 := by simp [EnvC]
    simp only [x5, x10]
    simpa [ObjC] using s6
  · have h := edg_of g7 (by rw [p7] at ho; cases ho; exact hall)
    have a4 := h 4 (by simp)
    have a5 := h 5 (by simp)
    have a3 := h 3 (by simp)
    have a6 := h 6 (by simp)
    rw [hl4] at a4; rw [hl5] at a5; rw [hl3] at a3; rw [hl6] at a6; rw [hl7] at hf
    subst a4 a5 a3 a6 hf
    simp only [hl0, hl1, hl2, hl3, hl4, hl5, hl6] at J2
    refine step_wp (A := annOf [] [] [] false []) (f := 3) hT hd hs (step_store (r := (.undef, L ++ [.cells c10 0, .cells c12 0], low)) p7 q7 y7 u7 hA ?_) fun a' w' hF' => J2 _ a' w' hF' rfl rfl rfl (by simp [St.put, ObjC])
    have x6 : EnvC e0 v9 v10 v11 v12 L.length l0 l1 l2 true true true 6 = .ptr (L.length + 1) 0 0 := by simp [EnvC]
    have x12 : EnvC e0 v9 v10 v11 v12 L.length l0 l1 l2 true true true 12 = v12 := by simp [EnvC]
    simp only [x6, x12]
    simpa [ObjC] using s7

end Go.Proofs.YtnbgmclbbkfhhaaDoor.B
set_option maxRecDepth 20000
set_option maxHeartbeats 1000000
namespace Go.Proofs.YtnbgmclbbkfhhaaDoor.B
open Go Go.Ab
theorem twL_of {objs O : List AO} {v : V} {row : List Ce} (h : rowR objs v = some row) (ho : Old objs O) : twL O row = twL objs row := by
  unfold twL; rw [List.map_congr_left fun x hx => tw_of ((rowR_inv h).2 x hx) ho]
theorem twSL_of {objs O : List AO} {v : V} {l : List Se} (h : setsR objs v = some l) (ho : Old objs O) : twSL O l = twSL objs l := by
  unfold twSL; rw [List.map_congr_left fun x hx => show twS O x = twS objs x from by unfold twS; rw [tw_of (seOk_inv ((setsR_inv h).2 x hx)).2 ho]]
theorem chkC_tw {objs O : List AO} (c : Co) {x : Ce} (h : ceOk objs x = true) : chkC O c (tw objs x) = chkC objs c x := by unfold chkC; rw [(tw_ok h).2]; rfl
theorem cellsN_tw {objs O : List AO} {cols : List Co} {n : Nat} {row : List Ce} (h : ∀ x ∈ row, ceOk objs x = true) : cellsN O cols n (row.map (tw objs)) = cellsN objs cols n row := by
  unfold cellsN
  rw [List.length_map]
  split
  · rename_i hl
    exact firstE_congr fun j _ hj => by
      show chkC O _ (nth (row.map (tw objs)) j) = _
      rw [nth_map (by omega)]
      exact chkC_tw _ (h _ (nth_mem (by omega)))
  · rfl
theorem rowE_tw {objs O : List AO} {cols : List Co} {K : Int} {row : List Ce} (h : ∀ x ∈ row, ceOk objs x = true) : rowE O cols K (row.map (tw objs)) = rowE objs cols K row := by unfold rowE; rw [cellsN_tw h]
theorem keyE_tw {objs O : List AO} {cols : List Co} {K : Int} {row : List Ce} (h : ∀ x ∈ row, ceOk objs x = true) : keyE O cols K (row.map (tw objs)) = keyE objs cols K row := by unfold keyE; rw [cellsN_tw h]
theorem setsE_tw {objs O : List AO} {cols : List Co} {K : Int} {l : List Se} (h : ∀ x ∈ l, seOk objs x = true) : setsE O cols K (l.map (twS objs)) = setsE objs cols K l := by
  unfold setsE
  rw [List.length_map, firstE_congr (g := setE objs cols K l)]
  intro j _ hj
  have e : ∀ i, i < l.length → (nth (l.map (twS objs)) i).c = (nth l i).c ∧ (nth (l.map (twS objs)) i).x = tw objs (nth l i).x := fun i hi => by rw [nth_map hi]; exact ⟨rfl, rfl⟩
  obtain ⟨e1, e2⟩ := e j (by omega)
  have hm : misP cols K (l.map (twS objs)) j ↔ misP cols K l j := by
    unfold misP
    rw [e1]
    rcases Nat.eq_zero_or_pos j with z | z
    · simp [z]
    · rw [(e (j - 1) (by omega)).1]
  unfold setE
  rw [e1, e2, chkC_tw _ (seOk_inv (h _ (nth_mem (by omega)))).2]
  simp only [hm]
theorem opE_tw {objs O : List AO} {cols : List Co} {K k : Int} {row : List Ce} {l : List Se} (h : ∀ x ∈ row, ceOk objs x = true) (hs : ∀ x ∈ l, seOk objs x = true) : opE O cols K k (row.map (tw objs)) (l.map (twS objs)) = opE objs cols K k row l := by
  unfold opE; rw [rowE_tw h, keyE_tw h, setsE_tw hs, List.length_map]
theorem opE_old {objs O : List AO} {cols : List Co} {K k : Int} {row : List Ce} {l : List Se} (h : ∀ i, i < row.length → ceOk objs (nth row i) = true) (hs : ∀ i, i < l.length → seOk objs (nth l i) = true) (ho : Old objs O) : opE O cols K k row l = opE objs cols K k row l := by
  unfold opE; rw [rowE_old h ho, keyE_old h ho, setsE_old hs ho]
theorem opD_of {objs : List AO} {k : Int} {r u : V} {row : List Ce} {l : List Se} (h1 : rowR objs r = some row) (h2 : setsR objs u = some l) (h3 : l.length < 140737488355328) (h4 : row.length < 140737488355328) : opD objs (.agg [.int .i64 k, r, u]) = some (k, row, l) := by
  unfold opD; simp only [h1, h2]; rw [if_pos ⟨h3, h4⟩]
theorem rR_ref {r : V} {row : List Ce} (h : rowR [] r = some row) (b : Nat) : Ab.noref b r = true := (rowF h).1.noref (Nat.zero_le _) (norefs_iff.2 fun u hu => by
  obtain ⟨x, hx, h2⟩ := List.mem_flatMap.1 hu
  have := v_noref (ceOk_inv ((rowR_inv h).2 x hx)).2.1 (Nat.zero_le b)
  simp only [ceV, List.mem_cons, List.not_mem_nil, or_false] at h2
  rcases h2 with rfl | rfl | rfl <;> first | rfl | exact this)
theorem rS_ref {r : V} {l : List Se} (h : setsR [] r = some l) (b : Nat) : Ab.noref b r = true := (setsF h).1.noref (Nat.zero_le _) (norefs_iff.2 fun u hu => by
  obtain ⟨x, hx, h2⟩ := List.mem_flatMap.1 hu
  have := v_noref (ceOk_inv (seOk_inv ((setsR_inv h).2 x hx)).2).2.1 (Nat.zero_le b)
  simp only [seV, ceV, List.mem_cons, List.not_mem_nil, or_false] at h2
  rcases h2 with rfl | rfl | rfl | rfl <;> first | rfl | exact this)
theorem put_ref {b k : Nat} {e : Nat → V} {v : V} (h : ∀ d, Ab.noref b (e d) = true) (hv : Ab.noref b v = true) : ∀ d, Ab.noref b (Ab.put e (some k) v d) = true := fun d => by
  simp only [Ab.put, upd]; split
  · exact hv
  · exact h d
theorem ent_ref {b : Nat} {l : List V} (h : norefs b l = true) : ∀ d, Ab.noref b (entryEnv l d) = true := fun d => by
  unfold entryEnv
  rw [List.getD_eq_getElem?_getD]
  rcases Nat.lt_or_ge d l.length with q | q
  · rw [List.getElem?_eq_getElem q]; exact norefs_iff.1 h _ (List.getElem_mem q)
  · rw [List.getElem?_eq_none q]; rfl
noncomputable def k_SchemaChecks : Ab.Spec := con2 some some fun s p objs => match objs with
  | [] => match schD [] s, opD [] p with
    | some (cols, _), some (_, row, sets) => bnd (cols.length * 32) 140737488355328 (bnd (row.length * 40) 140737488355328 (bnd (sets.length * 48) 140737488355328 (some (.bool true, none))))
    | _, _ => none
  | _ => none
noncomputable def T_SchemaChecks : CallF := withF T_aliveA 3 k_SchemaChecks
theorem T_SchemaChecks_ok : CallOk Tryd.prog T_SchemaChecks := con_ofS (A := annOf [] [] [] false []) fit T_aliveA_ok (fn := Tryd.f3) (by kernel_rfl) (by
  intro args objs r h0
  have c_aliveA : ∀ a o, T_aliveA 9 a o = k_aliveA a o := fun _ _ => rfl
  have c_TwinSchema : ∀ a o, T_aliveA 10 a o = k_TwinSchema a o := fun _ _ => rfl
  have c_TwinOp : ∀ a o, T_aliveA 11 a o = k_TwinOp a o := fun _ _ => rfl
  have c_schCheck : ∀ a o, T_aliveA 12 a o = k_schCheck a o := fun _ _ => rfl
  have c_rSchema : ∀ a o, T_aliveA 13 a o = k_rSchema a o := fun _ _ => rfl
  have c_Op : ∀ a o, T_aliveA 14 a o = k_Op a o := fun _ _ => rfl
  have c_rOp : ∀ a o, T_aliveA 15 a o = k_rOp a o := fun _ _ => rfl
  have c_Row : ∀ a o, T_aliveA 16 a o = k_Row a o := fun _ _ => rfl
  have c_rRow : ∀ a o, T_aliveA 17 a o = k_rRow a o := fun _ _ => rfl
  have c_Key : ∀ a o, T_aliveA 18 a o = k_Key a o := fun _ _ => rfl
  have c_rKey : ∀ a o, T_aliveA 19 a o = k_rKey a o := fun _ _ => rfl
  have c_Sets : ∀ a o, T_aliveA 20 a o = k_Sets a o := fun _ _ => rfl
  have c_rSets : ∀ a o, T_aliveA 21 a o = k_rSets a o := fun _ _ => rfl
  have c_AlikeSchema : ∀ a o, T_aliveA 22 a o = k_AlikeSchema a o := fun _ _ => rfl
  have c_AlikeOp : ∀ a o, T_aliveA 23 a o = k_AlikeOp a o := fun _ _ => rfl
  obtain ⟨s, p, _, _, rfl, hs, hp, hR⟩ := con2_inv h0
  cases hs; cases hp
  split at hR
  case h_2 => cases hR
  split at hR
  case h_2 => cases hR
  rename_i cols K k row sets hsc hop
  obtain ⟨l1, hR⟩ := bnd_inv hR
  obtain ⟨l2, hR⟩ := bnd_inv hR
  obtain ⟨l3, hR⟩ := bnd_inv hR
  cases hR
  obtain ⟨v, rfl, hc, hl, hsh⟩ := schD_inv hsc
  have vd := (colsV hc).dem
  obtain ⟨r, u, rfl, hr, hu, hul, hrl⟩ := opD_inv hop
  have rd := (rowF hr).2.1
  have ud := (setsF hu).2.1
  have rk := (rowR_inv hr).2
  have uk := (setsR_inv hu).2
  have rk' := (rowF hr).2.2.2.2
  have uk' := (setsF hu).2.2.2.2
  have cd : demote (colsOut cols) = colsOut cols := by unfold colsOut; split <;> rfl
  have S1 := fun O => schD_old hsc (old_nil O)
  have S2 : ∀ O, schD O (.agg [colsOut cols, .int .i64 K]) = some (cols, K) := fun O => schD_of (colsOut_rec O cols) hl hsh
  have R1 := fun O => rowR_old hr (old_nil O)
  have U1 := fun O => setsR_old hu (old_nil O)
  have R2 : ∀ O, rowR O (twL [] row) = some (row.map (tw [])) := fun O => tw_row rk
  have U2 : ∀ O, setsR O (twSL [] sets) = some (sets.map (twS [])) := fun O => twS_row uk
  have P1 := fun O => opD_of (k := k) (R1 O) (U1 O) hul hrl
  have P2 := fun O => opD_of (k := k) (R2 O) (U2 O) (by simpa using hul) (by simpa using hrl)
  have C1 := fun O => (k_sch (S1 O)).1
  have C2 := fun O => (k_sch (S1 O)).2
  have C3 := fun O => (k_sch (S2 O)).1
  have T1 := fun O => twL_of (O := O) hr (old_nil O)
  have T2 := fun O => twSL_of (O := O) hu (old_nil O)
  have E1 := fun O => opE_old (cols := cols) (K := K) (k := k) rk' uk' (old_nil O)
  have E2 := fun O => opE_tw (O := O) (cols := cols) (K := K) (k := k) rk uk
  have E3 := fun O => rowE_old (cols := cols) (K := K) rk' (old_nil O)
  have E4 := fun O => rowE_tw (O := O) (cols := cols) (K := K) rk
  have E5 := fun O => keyE_old (cols := cols) (K := K) rk' (old_nil O)
  have E6 := fun O => keyE_tw (O := O) (cols := cols) (K := K) rk
  have E7 := fun O => setsE_old (cols := cols) (K := K) uk' (old_nil O)
  have E8 := fun O => setsE_tw (O := O) (cols := cols) (K := K) uk
  have M1 : ∀ O, row.map (Ce.t O) = row.map (Ce.t []) := fun O => List.map_congr_left fun x hx => Ce.t_old (rk x hx) (old_nil O)
  have M2 : ∀ O, sets.map (Se.t O) = sets.map (Se.t []) := fun O => List.map_congr_left fun x hx => by unfold Se.t; rw [Ce.t_old (seOk_inv (uk x hx)).2 (old_nil O)]
  have M3 := fun O => tm_tw (O := O) rk
  have M4 := fun O => tm_twS (O := O) uk
  have td : demote (twL [] row) = twL [] row := rfl
  have td2 : demote (twSL [] sets) = twSL [] sets := rfl
  have o1 : oneCell (twL [] row) = true := rfl
  have o2 : oneCell (twSL [] sets) = true := rfl
  have o3 : oneCell (colsOut cols) = true := by unfold colsOut; split <;> rfl
  refine .go _ rfl rfl ?_
  have vn : Ab.noref 2 v = true := (colsV hc).noref (Nat.zero_le _) (coV_refs cols 2)
  have rn : Ab.noref 2 r = true := rR_ref hr 2
  have un : Ab.noref 2 u = true := rS_ref hu 2
  have hgo : ∀ (e0 : Nat → V), e0 2 = .ptr 0 0 0 → e0 3 = .ptr 1 0 0 → (∀ d, Ab.noref 2 (e0 d) = true) → True := fun _ _ _ _ => trivial
  refine .seq (.of fit.mixed T_aliveA_ok (by kernel_rfl) (To.mono (Q := fun e s => e = .norm ∧ s.env 2 = .ptr 0 0 0 ∧ s.env 3 = .ptr 1 0 0 ∧ (∀ d, Ab.noref 2 (s.env d) = true) ∧ s.toks = [] ∧ s.objs = [.cells [v, .int .i64 K] 0, .cells [.int .i64 k, r, u] 0] ∧ s.low = 0) ?_ ?_))
  · simp -implicitDefEqProofs (maxSteps := 1000000) (disch := omega) [vd, rd, ud]
    refine ⟨rfl, rfl, rfl, ?_, rfl, rfl, rfl⟩
    refine put_ref (put_ref (put_ref (ent_ref ?_) ?_) ?_) ?_ <;> simp [norefs, Ab.noref, vn, rn, un]
  rintro _ ⟨e0, toks, objs, low⟩ ⟨rfl, q2, q3, qr, rfl, rfl, rfl⟩
  refine .seq (.of fit.mixed T_aliveA_ok (by kernel_rfl) (To.mono (Q := fun e s => e = .norm ∧ s.env 2 = .ptr 0 0 0 ∧ s.env 3 = .ptr 1 0 0 ∧ (∀ d, Ab.noref 2 (s.env d) = true) ∧ s.toks = [] ∧ s.objs = [.cells [v, .int .i64 K] 0, .cells [.int .i64 k, r, u] 0] ∧ s.low = 0) ?_ ?_))
  · simp -implicitDefEqProofs (maxSteps := 1000000) (disch := omega) [c_aliveA, aliveA, q2, q3]
    refine ⟨rfl, q2, q3, ?_, rfl, rfl, rfl⟩
    refine put_ref (put_ref qr ?_) ?_ <;> rfl
  clear q2 q3 qr
  rintro _ ⟨e0, toks, objs, low⟩ ⟨rfl, q2, q3, qr, rfl, rfl, rfl⟩
  simp only at q2 q3 qr
  have j10 : ∀ M, T_aliveA 10 [.agg [v, .int .i64 K]] ([.cells [v, .int .i64 K] 0, .cells [.int .i64 k, r, u] 0] ++ M) = some (.agg [colsOut cols, .int .i64 K], none) := fun M => by
    rw [c_TwinSchema]; simp [k_TwinSchema, con1, S1, bnd_pos, l1]
  have j12 : ∀ M, T_aliveA 11 [.agg [.int .i64 k, r, u]] ([.cells [v, .int .i64 K] 0, .cells [.int .i64 k, r, u] 0] ++ M) = some (.agg [.int .i64 k, twL [] row, twSL [] sets], none) := fun M => by
    rw [c_TwinOp]; simp [k_TwinOp, con1, P1, bnd_pos, l2, l3, T1, T2]
  refine .seq (.cut (reg3 (T := T_aliveA) (v9 := .agg [v, .int .i64 K]) (v10 := .agg [colsOut cols, .int .i64 K]) (w10 := .agg [colsOut cols, .int .i64 K]) (v11 := .agg [.int .i64 k, r, u]) (v12 := .agg [.int .i64 k, twL [] row, twSL [] sets]) (w12 := .agg [.int .i64 k, twL [] row, twSL [] sets]) (c10 := [colsOut cols, .int .i64 K]) (c12 := [.int .i64 k, twL [] row, twSL [] sets]) (z1 := [.nils, .int .i64 0]) (z2 := [.int .i64 0, .nils, .nils]) fit.mixed T_aliveA_ok q2 q3 ?a9 ?a11 rfl rfl j10 j12 (by simp) (by simp) rfl rfl ?z1 ?z2 ?s6 ?s7 ?hL ?hm rfl rfl qr ?r9 ?r10 ?r11 ?r12 ?lo) ?_)
  case a9 => intro M; simp [vd]
  case a11 => intro M; simp [rd, ud]
  case z1 => simp
  case z2 => simp
  case s6 => simp [storeO, cd, o3, setCells]
  case s7 => simp [storeO, td, td2, o1, o2, setCells]
  case hL =>
    intro id cs ver h
    match id, h with
    | 0, h => simp at h; rw [← h.1]; simp [norefs, Ab.noref, vn]
    | 1, h => simp at h; rw [← h.1]; simp [norefs, Ab.noref, rn, un]
    | n + 2, h => simp at h
  case hm =>
    intro id es h
    match id, h with
    | 0, h => simp at h
    | 1, h => simp at h
    | n + 2, h => simp at h
  case r9 => simp [norefs, Ab.noref, vn]
  case r10 => simp [norefs, Ab.noref]; unfold colsOut; split <;> simp [Ab.noref, coV_refs]
  case r11 => simp [norefs, Ab.noref, rn, un]
  case r12 => simp [norefs, Ab.noref, twL, twSL, tw_refs, twS_refs]
  case lo => exact ⟨by simp, by simp, by simp, fun _ _ id x h => absurd h (Nat.not_lt_zero _)⟩
  have sl : sets.length < 140737488355328 := hul
  have sl2 : (sets.map (twS [])).length < 140737488355328 := by simpa using hul
  have A1 : ∀ O, k_Op [(.agg [colsOut cols, .int .i64 K]), (.agg [.int .i64 k, twL [] row, twSL [] sets])] O = some (.int .i64 (opE [] cols K k row sets), none) := fun O => by simp (disch := omega) [k_Op, con2, S2, P2, E2]
  have A2 : ∀ O, k_rOp [(.agg [v, .int .i64 K]), (.agg [.int .i64 k, r, u])] O = some (.int .i64 (opE [] cols K k row sets), none) := fun O => by simp (disch := omega) [k_rOp, con2, S1, P1, E1]
  have A3 : ∀ O, k_Row [(.agg [colsOut cols, .int .i64 K]), (twL [] row)] O = some (.int .i64 (rowE [] cols K row), none) := fun O => by simp (disch := omega) [k_Row, con2, S2, R2, E4]
  have A4 : ∀ O, k_rRow [(.agg [v, .int .i64 K]), r] O = some (.int .i64 (rowE [] cols K row), none) := fun O => by simp (disch := omega) [k_rRow, con2, S1, R1, E3]
  have A5 : ∀ O, k_Key [(.agg [colsOut cols, .int .i64 K]), (twL [] row)] O = some (.int .i64 (keyE [] cols K row), none) := fun O => by simp (disch := omega) [k_Key, con2, S2, R2, E6]
  have A6 : ∀ O, k_rKey [(.agg [v, .int .i64 K]), r] O = some (.int .i64 (keyE [] cols K row), none) := fun O => by simp (disch := omega) [k_rKey, con2, S1, R1, E5]
  have A7 : ∀ O, k_Sets [(.agg [colsOut cols, .int .i64 K]), (twSL [] sets)] O = some (.int .i64 (setsE [] cols K sets), none) := fun O => by simp (disch := omega) [k_Sets, con2, S2, U2, E8, bnd_pos, sl]
  have A8 : ∀ O, k_rSets [(.agg [v, .int .i64 K]), u] O = some (.int .i64 (setsE [] cols K sets), none) := fun O => by simp (disch := omega) [k_rSets, con2, S1, U1, E7, bnd_pos, sl]
  have A9 : ∀ O, k_AlikeSchema [(.agg [colsOut cols, .int .i64 K]), (.agg [v, .int .i64 K])] O = some (.bool true, none) := fun O => by simp (disch := omega) [k_AlikeSchema, con2, S2, S1, pre_pos]
  have Aa : ∀ O, k_AlikeOp [(.agg [.int .i64 k, twL [] row, twSL [] sets]), (.agg [.int .i64 k, r, u])] O = some (.bool true, none) := fun O => by simp (disch := omega) [k_AlikeOp, con2, P2, P1, pre_pos, M1, M2, M3, M4]
  refine .of fit.mixed T_aliveA_ok (by kernel_rfl) ?_
  simp -implicitDefEqProofs (maxSteps := 1000000) (disch := omega) [EnvC, q2, q3, vd, rd, ud, cd, td, td2, c_schCheck, C3, c_rSchema, C2, c_Op, A1, c_rOp, A2, c_Row, A3, c_rRow, A4, c_Key, A5, c_rKey, A6, c_Sets, A7, c_rSets, A8, c_AlikeSchema, A9, c_AlikeOp, Aa])

end Go.Proofs.YtnbgmclbbkfhhaaDoor.B
set_option maxRecDepth 20000
set_option maxHeartbeats 1000000
namespace Go.Proofs.YtnbgmclbbkfhhaaDoor.B
open Go Go.Ab
theorem in_int {D M n : Nat} {v : V} {t : TypeId} {k : IntKind} (hu : Tryd.prog.underlying t = some (.int k)) (hg : Ab.isAgg Tryd.prog t = false) (h : ShpV Tryd.prog D M n t v) : ∃ i, v = .int k i ∧ (Lit.int k i).wf = true := by
  unfold ShpV at h
  rw [if_neg (by rw [hg]; simp)] at h
  exact shp_int hu h
theorem wf_u32 {c : Int} (h : (Lit.int .u32 c).wf = true) : 0 ≤ c ∧ c < 4294967296 := by
  simp [Lit.wf, IntKind.min, IntKind.max] at h; omega
theorem wf_u64 {c : Int} (h : (Lit.int .u64 c).wf = true) : 0 ≤ c ∧ c < 18446744073709551616 := by
  simp [Lit.wf, IntKind.min, IntKind.max] at h; omega
theorem wf_i64 {c : Int} (h : (Lit.int .i64 c).wf = true) : -9223372036854775808 ≤ c ∧ c < 9223372036854775808 := by
  simp [Lit.wf, IntKind.min, IntKind.max] at h; omega
theorem flat : laidFlat Tryd.prog = true := by kernel_rfl

theorem shp_bytes {D M k : Nat} {v : V} (h : Shp Tryd.prog D M k 59 v) : ∃ l, ofInts .u8 v = some l ∧ b8 l = true ∧ l.length ≤ 140737488351232 := by
  obtain ⟨l, l1, l2, l3, l4⟩ := shp_ints u59 u5 h
  have hb : Tryd.prog.bytesOf 5 = 1 := by kernel_rfl
  rw [hb] at l3
  exact ⟨l, l1, wf_u8 l2, by omega⟩
theorem shp_cell {D M k : Nat} {a b c : V} (h0 : Shp Tryd.prog D M k 4 a) (h1 : Shp Tryd.prog D M k 2 b) (h2 : Shp Tryd.prog D M k 59 c) : ∃ n i, a = .bool n ∧ b = .int .i64 i ∧ ceOk [] ⟨n, i, c⟩ = true := by
  obtain ⟨n, rfl⟩ := shp_bool u4 h0
  obtain ⟨i, rfl, hi⟩ := shp_int u2 h1
  obtain ⟨l, l1, l2, l3⟩ := shp_bytes h2
  exact ⟨n, i, rfl, rfl, (ceOk_of (x := ⟨n, i, c⟩) (i64B_iff.2 (wf_i64 hi)) (ofIntsR_of l1) l2 (by omega)).1⟩
theorem recR_told {α : Type} [Inhabited α] {d : List V → Option α} {e : Nat} {v : V} {l : List α} (h : ofRecL d e v = some l) : recR d e [] v = some l := by
  unfold recR
  split
  · cases h
  · exact h
theorem in_rowS {D M n : Nat} {v : V} (h2 : Shp Tryd.prog (D + 64) M n 25 v) : ∃ l, rowR [] v = some l ∧ l.length * 40 ≤ 140737488351232 ∧ (M = 0 ∨ l.length ≤ M) := by
  have hls : leaves Tryd.prog (D + 64) 82 = [4, 2, 59] := by kernel_rfl
  obtain ⟨l, l1, l2, l3, l4⟩ := shp_recs (d := ceD []) (R := fun _ => True) (m := 3) u25 hls rfl (fun k us hl hs => by
    match us, hl with
    | [a, b, c], _ =>
      obtain ⟨n, i, rfl, rfl, hk⟩ := shp_cell (hs 0 a _ rfl rfl) (hs 1 b _ rfl rfl) (hs 2 c _ rfl rfl)
      exact ⟨⟨n, i, c⟩, ceD_ok.2 hk, trivial⟩) h2
  have hb : Tryd.prog.bytesOf 82 = 40 := by kernel_rfl
  rw [hb] at l3
  exact ⟨l, recR_told l1, l3, l4⟩
theorem in_setS {D M n : Nat} {v : V} (h2 : Shp Tryd.prog (D + 64) M n 26 v) : ∃ l, setsR [] v = some l ∧ l.length * 48 ≤ 140737488351232 ∧ (M = 0 ∨ l.length ≤ M) := by
  have hls : leaves Tryd.prog (D + 64) 84 = [3, 4, 2, 59] := by kernel_rfl
  obtain ⟨l, l1, l2, l3, l4⟩ := shp_recs (d := seD []) (R := fun _ => True) (m := 4) u26 hls rfl (fun k us hl hs => by
    match us, hl with
    | [a, b, c, d], _ =>
      obtain ⟨i0, rfl, hi⟩ := shp_int u3 (hs 0 a _ rfl rfl)
      obtain ⟨n, i, rfl, rfl, hk⟩ := shp_cell (hs 1 b _ rfl rfl) (hs 2 c _ rfl rfl) (hs 3 d _ rfl rfl)
      refine ⟨⟨i0, n, i, d⟩, (seD_ok (c := ⟨i0, n, i, d⟩)).2 ?_, trivial⟩
      unfold seOk
      rw [hk, i64B_iff.2 (wf_i64 hi)]; rfl) h2
  have hb : Tryd.prog.bytesOf 84 = 48 := by kernel_rfl
  rw [hb] at l3
  exact ⟨l, recR_told l1, l3, l4⟩
theorem in_colS {D M n : Nat} {v : V} (h2 : Shp Tryd.prog (D + 64) M n 22 v) : ∃ l, recR coD 3 [] v = some l ∧ short24 l = true ∧ l.length * 32 ≤ 140737488351232 ∧ (M = 0 ∨ l.length ≤ M) := by
  have hls : leaves Tryd.prog (D + 64) 89 = [9, 3, 4] := by kernel_rfl
  obtain ⟨l, l1, l2, l3, l4⟩ := shp_recs (d := coD) (R := fun c => (strL c.nm).length < 140737488355328) (m := 3) u22 hls rfl (fun k us hl hs => by
    match us, hl with
    | [a, b, c], _ =>
      obtain ⟨s, rfl, hs1, -⟩ := shp_str u9 (hs 0 a _ rfl rfl)
      obtain ⟨i, rfl, hi⟩ := shp_int u3 (hs 1 b _ rfl rfl)
      obtain ⟨n, rfl⟩ := shp_bool u4 (hs 2 c _ rfl rfl)
      exact ⟨⟨s, i, n⟩, rfl, by rw [strL_len]; exact Nat.lt_of_le_of_lt hs1 (by decide)⟩) h2
  have hb : Tryd.prog.bytesOf 89 = 32 := by kernel_rfl
  rw [hb] at l3
  exact ⟨l, recR_told l1, by simpa [short24] using l2, l3, l4⟩
theorem in_row {D M n : Nat} {v : V} (h : ShpV Tryd.prog (D + 64) M n 25 v) : ∃ l, rowR [] v = some l ∧ l.length * 40 ≤ 140737488351232 ∧ (M = 0 ∨ l.length ≤ M) := by
  have hg : Ab.isAgg Tryd.prog 25 = false := by kernel_rfl
  exact in_rowS (by unfold ShpV at h; rwa [if_neg (by rw [hg]; simp)] at h)
theorem in_set {D M n : Nat} {v : V} (h : ShpV Tryd.prog (D + 64) M n 26 v) : ∃ l, setsR [] v = some l ∧ l.length * 48 ≤ 140737488351232 ∧ (M = 0 ∨ l.length ≤ M) := by
  have hg : Ab.isAgg Tryd.prog 26 = false := by kernel_rfl
  exact in_setS (by unfold ShpV at h; rwa [if_neg (by rw [hg]; simp)] at h)
theorem in_schema {D M n : Nat} {v : V} (h : ShpV Tryd.prog (D + 64) M n 24 v) : ∃ cols K, schD [] v = some (cols, K) ∧ cols.length * 32 ≤ 140737488351232 ∧ (M = 0 ∨ cols.length ≤ M) ∧ i64B K = true := by
  have hg : Ab.isAgg Tryd.prog 24 = true := by kernel_rfl
  unfold ShpV at h
  rw [if_pos hg] at h
  obtain ⟨us, rfl, hl, hs⟩ := h
  have hls : leaves Tryd.prog (D + 64) 24 = [22, 3] := by kernel_rfl
  rw [hls] at hl hs
  match us, hl with
  | [a, b], _ =>
    obtain ⟨cols, c1, c2, c3, c4⟩ := in_colS (hs 0 a _ rfl rfl)
    obtain ⟨K, rfl, hK⟩ := shp_int u3 (hs 1 b _ rfl rfl)
    exact ⟨cols, K, schD_of c1 (by omega) c2, c3, c4, i64B_iff.2 (wf_i64 hK)⟩
theorem in_ints {D M n : Nat} {v : V} (h : ShpV Tryd.prog D M n 44 v) : ∃ l, ofInts .i64 v = some l ∧ l.length * 8 ≤ 140737488351232 ∧ (M = 0 ∨ l.length ≤ M) := by
  have hg : Ab.isAgg Tryd.prog 44 = false := by kernel_rfl
  have h2 : Shp Tryd.prog D M n 44 v := by unfold ShpV at h; rwa [if_neg (by rw [hg]; simp)] at h
  obtain ⟨l, l1, l2, l3, l4⟩ := shp_ints u44 u3 h2
  have hb : Tryd.prog.bytesOf 3 = 8 := by kernel_rfl
  rw [hb] at l3
  exact ⟨l, l1, l3, l4⟩

theorem in_op {D M n : Nat} {v : V} (h : ShpV Tryd.prog (D + 64) M n 28 v) : ∃ k row sets, opD [] v = some (k, row, sets) ∧ row.length * 40 ≤ 140737488351232 ∧ sets.length * 48 ≤ 140737488351232 := by
  have hg : Ab.isAgg Tryd.prog 28 = true := by kernel_rfl
  unfold ShpV at h
  rw [if_pos hg] at h
  obtain ⟨us, rfl, hl, hs⟩ := h
  have hls : leaves Tryd.prog (D + 64) 28 = [3, 25, 26] := by kernel_rfl
  rw [hls] at hl hs
  match us, hl with
  | [a, b, c], _ =>
    obtain ⟨K, rfl, hK⟩ := shp_int u3 (hs 0 a _ rfl rfl)
    obtain ⟨row, r1, r2, -⟩ := in_rowS (hs 1 b _ rfl rfl)
    obtain ⟨sets, t1, t2, -⟩ := in_setS (hs 2 c _ rfl rfl)
    exact ⟨K, row, sets, opD_of r1 t1 (by omega) (by omega), r2, t2⟩
theorem walk_SchemaChecks {D M n : Nat} {vs : List V} {args : Array Value} {W : World} (hS : ShpAll Tryd.prog (D + 64) M n [24, 28] vs) (hA : AR (top W) W vs args.toList) : Calls Tryd.prog 3 args W fun e W' => e = .returned (.bool true) ∧ Go.RowKit.Below W.heap.size W W' := by
  match vs, hS with
  | [v0, v1], ⟨s0, s1, _⟩ =>
    obtain ⟨cols, K, c1, c2, -⟩ := in_schema s0
    obtain ⟨k, row, sets, r1, r2, r3⟩ := in_op s1
    refine whole fit T_SchemaChecks_ok (fn := Tryd.f3) (by kernel_rfl) (by kernel_rfl) ?_ hA
    show k_SchemaChecks [v0, v1] [] = _
    simp (disch := omega) [k_SchemaChecks, c1, r1]

end Go.Proofs.YtnbgmclbbkfhhaaDoor.B
