import Derived.Test.YtdfcbophcfjakaaAb35
import Derived.OrdersIn
import Derived.LoopNIn
import Derived.RangeFuncCalls
set_option linter.unusedSimpArgs false
set_option linter.unusedVariables false
set_option linter.unusedSectionVars false
/- Code in the frame of a round of a loop over a function. -/
namespace Go.Ab
/-- Every machine is let in; the frame may be a round's. -/
abbrev FR (r : Option Nat) : Fence := { Fence.wide with round := r }
theorem FR.rm {r : Option Nat} {k : Nat} : (FR r).room k := fun d hd => by cases hd
theorem calls_FR {P : Program} {r : Option Nat} {n : Nat} {f : FuncId} {args : Array Value} {w : World} {R : Ending → World → Prop} (h : Calls P f args w R) : CallsIn (FR r) n P f args w R := (callsIn_wide (n := n)).2 h
theorem rows_FR {P : Program} {r : Option Nat} {n : Nat} {row : String} {args : Array Value} {w : World} {R : Value → World → Prop} (h : Rows P row args w R) : RowsIn (FR r) n P row args w R := fun c cs _ => by
  obtain ⟨v, w', q, s⟩ := h c cs
  exact ⟨v, w', q, (stepsIn_wide (P := P)).2 s⟩
theorem op_FR {P : Program} {r : Option Nat} {n : Nat} {o : Oper} {a : Act} {w : World} {K : Act → World → Prop} {Q : Exit → Act → World → Prop} (h : o.wp P a w K Q) (hd : ∀ c, o.op ≠ .defer c) : o.wpIn (FR r) n P a w K Q := by
  refine ⟨fun _ _ => trivial, ?_⟩
  rw [Oper.semAt_eq _ _ _ hd]
  unfold Oper.wp at h
  generalize (execOp a.eval o).run P w = res at h ⊢
  cases res with
  | ok x w' =>
    cases x <;> simp only [Oper.upon, Oper.uponIn] at h ⊢ <;> first | exact h | exact ⟨fun q => (by cases q), calls_FR h⟩ | exact ⟨fun q => (by cases q), rows_FR h⟩
  | halt x w' => cases x <;> simp only [Oper.upon, Oper.uponIn] at h ⊢ <;> exact h
section
variable {P : Program} {A : Ann} {call : CallF} {f : FuncId} {ops : Array Oper} {n : Nat} {G0 : Gh} {w0 : World} {objs0 : List AO} {bb : Nat} {s s' : St} {a : Act} {w : World} {G : Gh} {tl : Nat → Nat → Option (Nat × Nat)} {r : Option Nat} {m : Nat}
theorem noDefer {o : Oper} {p : V × List Nat × List AO × Nat} (h : evalOp P A call f bb o s = some p) : ∀ c, o.op ≠ .defer c := by
  intro c hc
  obtain ⟨dst, op, ty, ps, af, g⟩ := o
  simp only at hc
  subst hc
  simp only [evalOp, kindOf, pureX, pureV, Option.map_none] at h
  cases h
theorem step_in {i : Nat} {K : Act → World → Prop} {Q : Exit → Act → World → Prop} (hc : CallOk P call) (hd : dstsOk n ops = true) (hF : In n G0 w0 objs0 bb s a w) (h : stepOp P A call f bb ops i s = some s')
    (hK : ∀ a' w', In n G0 w0 objs0 bb s' a' w' → K a' w') : wpOpIn (FR r) m P ops Q i K a w := by
  obtain ⟨G, tl, hF⟩ := hF
  unfold stepOp at h
  unfold wpOpIn
  cases hi : ops[i]? with
  | none => rw [hi] at h; cases h
  | some o =>
    rw [hi] at h
    simp only at h ⊢
    have hdo := dsts_get hd hi
    have run : ∀ p, evalOp P A call f bb o s = some p → s' = s.put o.dst p → o.wpIn (FR r) m P a w K Q := fun p hp he =>
      op_FR (op_wp hc hF.env hF.store hF.wle.size hp fun c w' G' tl' hres => hK _ _ (by rw [he]; exact ⟨G', tl', hF.step hdo hres (op_low hc hp)⟩)) (noDefer hp)
    cases hr : opR P A call f bb ops o s with
    | none => rw [hr] at h; cases h
    | some p =>
      rw [hr] at h
      have he : s' = s.put o.dst p := (Option.some.inj h).symm
      unfold opR at hr
      split at hr
      · rename_i hg
        have hw : Region.wanted o (yielded ops a.tmps) = true := by unfold Region.wanted; rw [hg]
        rw [if_pos hw]
        exact run p hr he
      · rename_i j want hg
        split at hr
        case h_3 => cases hr
        case h_2 hb =>
          have hy : yielded ops a.tmps j ≠ some want := by
            cases hq : (ops[j]?).bind (·.dst) with
            | none => rw [hq] at hb; cases hb
            | some d =>
              rw [hq] at hb
              have hb' : s.env d = .undef := by simpa using hb
              have hx := (hF.env d).1
              rw [hb'] at hx
              have e := hx.undef_inv
              unfold yielded
              rw [hq]
              simp only [Option.bind_some]
              cases ht : a.tmps[d]? with
              | none => simp
              | some u =>
                rw [Array.getD_eq_getD_getElem?, ht] at e
                simp only [Option.getD_some] at e
                cases u with
                | bool b => exact absurd rfl (e b)
                | _ => simp
          have hw : Region.wanted o (yielded ops a.tmps) = false := by
            unfold Region.wanted; rw [hg]; simp only; simpa using hy
          rw [if_neg (by rw [hw]; simp)]
          cases hr
          refine ⟨fun _ _ => trivial, hK _ _ ?_⟩
          rw [he]
          exact ⟨G, tl, hF.step hdo (ResOk.same hF.store (.undef (fun _ => nofun)) (flatTok (by simp) (by simp))) (LowOk.refl ..)⟩
        rename_i b hb
        have hy : yielded ops a.tmps j = some b := by
          cases hq : (ops[j]?).bind (·.dst) with
          | none => rw [hq] at hb; cases hb
          | some d =>
            rw [hq] at hb
            have hb' : s.env d = .bool b := by simpa using hb
            have hx := (hF.env d).1
            rw [hb'] at hx
            have e := hx.bool_inv
            unfold yielded
            rw [hq]
            simp only [Option.bind_some]
            cases ht : a.tmps[d]? with
            | none => rw [Array.getD_eq_getD_getElem?, ht] at e; cases e
            | some u => rw [Array.getD_eq_getD_getElem?, ht] at e; simp only [Option.getD_some] at e; rw [e]
        by_cases hbw : b = want
        · rw [if_pos hbw] at hr
          have hw : Region.wanted o (yielded ops a.tmps) = true := by unfold Region.wanted; rw [hg]; simp only; rw [hy, hbw]; simp
          rw [if_pos hw]
          exact run p hr he
        · rw [if_neg hbw] at hr
          have hw : Region.wanted o (yielded ops a.tmps) = false := by
            unfold Region.wanted; rw [hg]; simp only; rw [hy]; simp [hbw]
          rw [if_neg (by rw [hw]; simp)]
          cases hr
          refine ⟨fun _ _ => trivial, hK _ _ ?_⟩
          rw [he]
          exact ⟨G, tl, hF.step hdo (ResOk.same hF.store (.undef (fun _ => nofun)) (flatTok (by simp) (by simp))) (LowOk.refl ..)⟩
/-- A stretch of a region, and then what follows. -/
theorem ops_in {Q : Exit → Act → World → Prop} {l2 : List Nat} (hc : CallOk P call) (hd : dstsOk n ops = true) (hQ : ∀ a' w', In n G0 w0 objs0 bb s' a' w' → wpOpsIn (FR r) m P ops Q l2 a' w') : ∀ (l : List Nat) (s : St) (a : Act) (w : World), In n G0 w0 objs0 bb s a w → evalOps P A call f bb ops l s = some s' → wpOpsIn (FR r) m P ops Q (l ++ l2) a w := by
  intro l
  induction l with
  | nil => intro s a w hF h; simp only [evalOps] at h; cases h; exact hQ a w hF
  | cons i l ih =>
    intro s a w hF h
    simp only [evalOps] at h
    cases h1 : stepOp P A call f bb ops i s with
    | none => rw [h1] at h; cases h
    | some s1 =>
      rw [h1] at h
      rw [List.cons_append, wpOpsIn_cons]
      exact step_in hc hd hF h1 fun a' w' hF' => ih s1 a' w' hF' h
theorem any_in {Q : Exit → Act → World → Prop} (hc : CallOk P call) (hd : dstsOk n ops = true) (hdr : drawOk A f ops = true) (hQ : ∀ a' w', In n G0 w0 objs0 bb s' a' w' → Q .normal a' w') :
    ∀ (fuel : Nat) (listed : Array Bool) (s : St) (a : Act) (w : World), listed.size = ops.size → Closed ops (fun k => listed.getD k false = true) → (rest ops listed).length ≤ fuel → In n G0 w0 objs0 bb s a w →
      evalOps P A call f bb ops (rest ops listed) s = some s' → wpAnyIn (FR r) m P .any ops Q fuel listed a w := by
  have hdr := drawOk_inv hdr
  have tf : ∀ {listed : Array Bool} {k : Nat}, listed.size = ops.size → k < ops.size → listed.getD k true = listed.getD k false := by
    intro listed k h1 h2
    rw [Array.getD_eq_getD_getElem?, Array.getD_eq_getD_getElem?, Array.getElem?_eq_getElem (by omega)]
    rfl
  have hmt : ∀ listed : Array Bool, listed.size = ops.size → Region.ready .any ops listed = [] → rest ops listed = [] := by
    intro listed hsz hr
    -- the least of those that are left is ready
    have : ∀ m, m < ops.size → (∀ k, k < m → listed.getD k false = true) → listed.getD m false = true := by
      intro m hm hall
      cases hl : listed.getD m false with
      | true => rfl
      | false =>
        have : m ∈ Region.ready .any ops listed := by
          rw [mem_ready]
          refine ⟨by rw [tf hsz hm]; exact hl, ops[m], Array.getElem?_eq_getElem hm, fun e he hb => hall _ ((hdr m ops[m] (Array.getElem?_eq_getElem hm)).1 e he hb)⟩
        rw [hr] at this; cases this
    have all : ∀ m, m ≤ ops.size → ∀ k, k < m → listed.getD k false = true := by
      intro m
      induction m with
      | zero => intro _ k hk; omega
      | succ m ih =>
        intro hm k hk
        rcases Nat.lt_or_ge k m with q | q
        · exact ih (by omega) k q
        · have : k = m := by omega
          subst this
          exact this k (by omega) (ih (by omega))
    unfold rest
    rw [List.filter_eq_nil_iff]
    intro k hk
    rw [List.mem_range] at hk
    rw [tf hsz hk, all _ (Nat.le_refl _) k hk]; simp
  intro fuel
  induction fuel with
  | zero =>
    intro listed s a w hsz hcl hlen hF h
    have hnil : rest ops listed = [] := List.eq_nil_of_length_eq_zero (by omega)
    refine ⟨?_, ?_⟩
    · cases hr : Region.ready .any ops listed with
      | nil => rfl
      | cons i l =>
        have hm : i ∈ Region.ready .any ops listed := by rw [hr]; simp
        obtain ⟨h0, o, ho, _⟩ := mem_ready.1 hm
        have : i ∈ rest ops listed := by
          have hlt : i < ops.size := by
            rcases Nat.lt_or_ge i ops.size with q | q
            · exact q
            · rw [Array.getElem?_eq_none q] at ho; cases ho
          unfold rest; rw [List.mem_filter, List.mem_range]
          exact ⟨hlt, by rw [h0]; rfl⟩
        rw [hnil] at this; cases this
    · rw [hnil] at h; simp only [evalOps] at h; cases h; exact hQ a w hF
  | succ fuel ih =>
    intro listed s a w hsz hcl hlen hF h
    refine ⟨fun hr => ?_, fun i hi => ?_⟩
    · rw [hmt listed hsz hr] at h; simp only [evalOps] at h; cases h; exact hQ a w hF
    · obtain ⟨h0, o, ho, hall⟩ := mem_ready.1 hi
      have hlt : i < ops.size := by
        rcases Nat.lt_or_ge i ops.size with q | q
        · exact q
        · rw [Array.getElem?_eq_none q] at ho; cases ho
      have hin : i < listed.size := by omega
      -- the list, cut at i
      have hsp : rest ops listed = (List.range i).filter (fun k => !listed.getD k true) ++ i :: (((List.range (ops.size - i - 1)).map (fun x => i + (1 + x))).filter fun k => !listed.getD k true) := by
        unfold rest
        rw [range_split hlt, List.filter_append, List.filter_cons, if_pos (by rw [h0]; rfl)]
      have hsp' : rest ops (listed.setIfInBounds i true) = (List.range i).filter (fun k => !listed.getD k true) ++ (((List.range (ops.size - i - 1)).map (fun x => i + (1 + x))).filter fun k => !listed.getD k true) := by
        unfold rest
        rw [range_split hlt, List.filter_append, List.filter_cons, if_neg (by simp [Array.getD, hin])]
        congr 1
        · refine List.filter_congr fun k hk => ?_
          rw [List.mem_range] at hk
          rw [getD_set_ne true (by omega)]
        · refine List.filter_congr fun k hk => ?_
          rw [List.mem_map] at hk
          obtain ⟨x, _, rfl⟩ := hk
          rw [getD_set_ne true (by omega)]
      rw [hsp] at h
      obtain ⟨s1, q1, q2⟩ := evalOps_front ho _ s (fun j hj => by
        rw [List.mem_filter, List.mem_range] at hj
        obtain ⟨hji, hjl⟩ := hj
        rcases (hdr i o ho).2 j hji with hb | hb
        · have := before_closed ops i o j ho hb (fun k => listed.getD k false = true) hcl hall
          rw [tf hsz (by omega), this] at hjl; cases hjl
        · exact hb) h
      refine step_in hc hd hF q1 fun a' w' hF' => ih _ s1 a' w' (by simpa using hsz) ?_ ?_ hF' (by rw [hsp']; exact q2)
      · intro k o2 e hk ho2 he hb
        by_cases hki : k = i
        · subst hki
          rw [ho] at ho2; cases ho2
          exact getD_set_true (hall e he hb)
        · have hk2 : (listed.setIfInBounds i true).getD k false = true := hk
          rw [getD_set_ne false (fun q => hki q.symm)] at hk2
          exact getD_set_true (hcl k o2 e hk2 ho2 he hb)
      · rw [hsp, List.length_append, List.length_cons] at hlen
        rw [hsp', List.length_append]; omega
theorem region_in {id : Nat} {draw : Bool} {Q : Exit → Act → World → Prop} (hm : P.follows .mixedOrders = true) (hc : CallOk P call) (hd : dstsOk n ops = true) (hdr : draw = true → drawOk A f ops = true) (hF : In n G0 w0 objs0 bb s a w)
    (h : evalOps P A call f bb ops (List.range ops.size) s = some s') (hQ : ∀ a' w', In n G0 w0 objs0 bb s' a' w' → Q .normal a' w') : (Code.region id ops draw).wpIn (FR r) m P Q a w := by
  cases draw with
  | false =>
    refine wpIn_region ?_
    have := ops_in (r := r) (m := m) (Q := Q) (l2 := []) hc hd hQ _ s a w hF h
    rwa [List.append_nil] at this
  | true =>
    have hdr := hdr rfl
    obtain ⟨G, tl, hF⟩ := hF
    refine wpIn_region_any hm (any_in hc hd hdr hQ ops.size _ s a _ (by simp) ?_ (by rw [rest_all]; simp) ⟨G, tl, hF.drawn _⟩ (by rw [rest_all]; exact h))
    intro k o e hk ho he hb
    have hkl : k < ops.size := by
      rcases Nat.lt_or_ge k ops.size with q | q
      · exact q
      · rw [Array.getElem?_eq_none q] at ho; cases ho
    simp [Array.getD, hkl] at hk
theorem evalC_in (hm : P.follows .mixedOrders = true) (hc : CallOk P call) : ∀ (fuel : Nat) (c : Code) (s : St) (a : Act) (w : World) (e : Ex) (s' : St) (Q : Exit → Act → World → Prop), codeOk n c = true → drawsOk A f c = true → evalC P A call f bb fuel c s = some (e, s') → In n G0 w0 objs0 bb s a w →
    (∀ a' w', In n G0 w0 objs0 bb s' a' w' → Q e.out a' w') → c.wpIn (FR r) m P Q a w := by
  intro fuel
  induction fuel using Nat.strongRecOn with
  | _ fuel ih =>
    intro c s a w e s' Q hok hdk h hF hQ
    cases fuel with
    | zero => simp only [evalC] at h; cases h
    | succ fuel =>
      cases c with
      | skip => simp only [evalC] at h; cases h; exact wpIn_skip (hQ a w hF)
      | region id ops draw =>
        simp only [evalC] at h
        cases ho : evalOps P A call f bb ops (List.range ops.size) s with
        | none => rw [ho] at h; cases h
        | some s1 =>
          rw [ho] at h; cases h
          exact region_in hm hc (by simpa [codeOk] using hok) (fun hq => by rw [hq] at hdk; simpa [drawsOk] using hdk) hF ho hQ
      | seq x y =>
        simp only [codeOk, Bool.and_eq_true] at hok
        simp only [drawsOk, Bool.and_eq_true] at hdk
        simp only [evalC] at h
        refine wpIn_seq ?_
        split at h
        · rename_i s1 h1
          exact ih fuel (by omega) x s a w _ _ _ hok.1 hdk.1 h1 hF fun a' w' hF' => ih fuel (by omega) y s1 a' w' _ _ _ hok.2 hdk.2 h hF' hQ
        · rename_i h1
          refine ih fuel (by omega) x s a w _ _ _ hok.1 hdk.1 h hF fun a' w' hF' => ?_
          cases e with
          | norm => exact absurd h (h1 s')
          | ret => exact hQ a' w' hF'
          | exit id => exact hQ a' w' hF'
      | cond c x y =>
        simp only [codeOk, Bool.and_eq_true] at hok
        simp only [drawsOk, Bool.and_eq_true] at hdk
        simp only [evalC] at h
        split at h
        case h_2 => cases h
        rename_i t ht
        obtain ⟨G, tl, hF1⟩ := hF
        have hx := opd_vr hF1.env c
        rw [ht] at hx
        refine wpIn_cond hx.bool_inv (ih fuel (by omega) _ s a w _ _ _ ?_ ?_ h ⟨G, tl, hF1⟩ hQ)
        · cases t
          · exact hok.2
          · exact hok.1
        · cases t
          · exact hdk.2
          · exact hdk.1
      | block id x =>
        simp only [codeOk] at hok
        simp only [drawsOk] at hdk
        simp only [evalC] at h
        refine wpIn_block ?_
        split at h
        · rename_i i s1 h1
          refine ih fuel (by omega) x s a w _ _ _ hok hdk h1 hF fun a' w' hF' => ?_
          simp only [Ex.out, Exit.inBlock]
          by_cases hi : i = id
          · rw [if_pos hi] at h ⊢; cases h; exact hQ a' w' hF'
          · rw [if_neg hi] at h ⊢; cases h; exact hQ a' w' hF'
        · rename_i h1
          refine ih fuel (by omega) x s a w _ _ _ hok hdk h hF fun a' w' hF' => ?_
          cases e with
          | norm => exact hQ a' w' hF'
          | ret => exact hQ a' w' hF'
          | exit i => exact absurd h (h1 i s')
      | loop x =>
        simp only [codeOk] at hok
        simp only [drawsOk] at hdk
        refine wpIn_loop_rounds (fuel + 1) ?_
        have key : ∀ (k : Nat), k ≤ fuel + 1 → ∀ s a w, evalC P A call f bb k (.loop x) s = some (e, s') → In n G0 w0 objs0 bb s a w → Code.roundsIn (FR r) m P x Q k a w := by
          intro k
          induction k with
          | zero => intro _ s a w h _; simp only [evalC] at h; cases h
          | succ k ihk =>
            intro hk s a w h hF
            simp only [evalC] at h
            split at h
            · rename_i s1 h1
              exact ih k (by omega) x s a w _ _ _ hok hdk h1 hF fun a' w' hF' => ihk (by omega) s1 a' w' h hF'
            · rename_i h1
              refine ih k (by omega) x s a w _ _ _ hok hdk h hF fun a' w' hF' => ?_
              cases e with
              | norm => exact absurd h (h1 s')
              | ret => exact hQ a' w' hF'
              | exit id => exact hQ a' w' hF'
        exact key _ (Nat.le_refl _) s a w h hF
      | exit id => simp only [evalC] at h; cases h; exact wpIn_exit (hQ a w hF)
      | ret => simp only [evalC] at h; cases h; exact wpIn_ret (hQ a w hF)
      | _ => simp only [evalC] at h; cases h
end
end Go.Ab
