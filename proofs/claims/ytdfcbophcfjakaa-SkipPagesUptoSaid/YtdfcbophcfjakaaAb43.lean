import Derived.Test.YtdfcbophcfjakaaAb42
set_option linter.unusedSimpArgs false
set_option linter.unusedVariables false
set_option linter.unusedSectionVars false
/- A drawn region with one call of yield in it, by its final values. -/
namespace Go.Ab
theorem any_inJ {P : Program} {ops : Array Oper} {Q : Exit → Act → World → Prop} {r : Option Nat} {m : Nat} (J : Array Bool → Act → World → Prop) (hb : ∀ j o, ops[j]? = some o → ∀ e ∈ o.after, Region.binds .any e = true → e.on < j)
    (hs : ∀ listed i, listed.size = ops.size → Closed ops (fun k => listed.getD k false = true) → i ∈ Region.ready .any ops listed → ∀ a w, J listed a w → ∀ K : Act → World → Prop, (∀ a' w', J (listed.setIfInBounds i true) a' w' → K a' w') → wpOpIn (FR r) m P ops Q i K a w)
    (hQ : ∀ listed a w, listed.size = ops.size → (∀ k, k < ops.size → listed.getD k false = true) → J listed a w → Q .normal a w) :
    ∀ (fuel : Nat) (listed : Array Bool) (a : Act) (w : World), listed.size = ops.size → Closed ops (fun k => listed.getD k false = true) → (rest ops listed).length ≤ fuel → J listed a w → wpAnyIn (FR r) m P .any ops Q fuel listed a w := by
  have tf : ∀ {listed : Array Bool} {k : Nat}, listed.size = ops.size → k < ops.size → listed.getD k true = listed.getD k false := by
    intro listed k h1 h2
    rw [Array.getD_eq_getD_getElem?, Array.getD_eq_getD_getElem?, Array.getElem?_eq_getElem (by omega)]
    rfl
  have hmt : ∀ listed : Array Bool, listed.size = ops.size → Region.ready .any ops listed = [] → ∀ k, k < ops.size → listed.getD k false = true := by
    intro listed hsz hr
    have this : ∀ m, m < ops.size → (∀ k, k < m → listed.getD k false = true) → listed.getD m false = true := by
      intro m hm hall
      cases hl : listed.getD m false with
      | true => rfl
      | false =>
        have : m ∈ Region.ready .any ops listed := by
          rw [mem_ready]
          refine ⟨by rw [tf hsz hm]; exact hl, ops[m], Array.getElem?_eq_getElem hm, fun e he hbb => hall _ (hb m ops[m] (Array.getElem?_eq_getElem hm) e he hbb)⟩
        rw [hr] at this; cases this
    have all : ∀ m, m ≤ ops.size → ∀ k, k < m → listed.getD k false = true := by
      intro m
      induction m with
      | zero => intro _ k hk; omega
      | succ m ih =>
        intro hm k hk
        rcases Nat.lt_or_ge k m with q | q
        · exact ih (by omega) k q
        · have : k = m := by omega
          subst this
          exact this k (by omega) (ih (by omega))
    exact all _ (Nat.le_refl _)
  have hlt : ∀ {listed : Array Bool} {i : Nat}, i ∈ Region.ready .any ops listed → i < ops.size := fun hi => by
    obtain ⟨-, o, ho, -⟩ := mem_ready.1 hi
    rename_i i
    rcases Nat.lt_or_ge i ops.size with q | q
    · exact q
    · rw [Array.getElem?_eq_none q] at ho; cases ho
  intro fuel
  induction fuel with
  | zero =>
    intro listed a w hsz hcl hlen hJ
    have hnil : rest ops listed = [] := List.eq_nil_of_length_eq_zero (by omega)
    have hr : Region.ready .any ops listed = [] := by
      cases hr : Region.ready .any ops listed with
      | nil => rfl
      | cons i l =>
        have hm : i ∈ Region.ready .any ops listed := by rw [hr]; simp
        have : i ∈ rest ops listed := by
          unfold rest; rw [List.mem_filter, List.mem_range]
          exact ⟨hlt hm, by rw [(mem_ready.1 hm).1]; rfl⟩
        rw [hnil] at this; cases this
    exact ⟨hr, hQ listed a w hsz (hmt listed hsz hr) hJ⟩
  | succ fuel ih =>
    intro listed a w hsz hcl hlen hJ
    refine ⟨fun hr => hQ listed a w hsz (hmt listed hsz hr) hJ, fun i hi => ?_⟩
    obtain ⟨h0, o, ho, hall⟩ := mem_ready.1 hi
    have hil := hlt hi
    refine hs listed i hsz hcl hi a w hJ _ fun a' w' hJ' => ih _ a' w' (by simpa using hsz) ?_ ?_ hJ'
    · intro k o2 e hk ho2 he hbb
      by_cases hki : k = i
      · subst hki
        rw [ho] at ho2; cases ho2
        exact getD_set_true (hall e he hbb)
      · have hk2 : (listed.setIfInBounds i true).getD k false = true := hk
        rw [getD_set_ne false (fun q => hki q.symm)] at hk2
        exact getD_set_true (hcl k o2 e hk2 ho2 he hbb)
    · have hin : i < listed.size := by omega
      have hsp : rest ops listed = (List.range i).filter (fun k => !listed.getD k true) ++ i :: (((List.range (ops.size - i - 1)).map (fun x => i + (1 + x))).filter fun k => !listed.getD k true) := by
        unfold rest
        rw [range_split hil, List.filter_append, List.filter_cons, if_pos (by rw [h0]; rfl)]
      have hsp' : rest ops (listed.setIfInBounds i true) = (List.range i).filter (fun k => !listed.getD k true) ++ (((List.range (ops.size - i - 1)).map (fun x => i + (1 + x))).filter fun k => !listed.getD k true) := by
        unfold rest
        rw [range_split hil, List.filter_append, List.filter_cons, if_neg (by simp [Array.getD, hin])]
        congr 1
        · refine List.filter_congr fun k hk => ?_
          rw [List.mem_range] at hk
          rw [getD_set_ne true (by omega)]
        · refine List.filter_congr fun k hk => ?_
          rw [List.mem_map] at hk
          obtain ⟨x, _, rfl⟩ := hk
          rw [getD_set_ne true (by omega)]
      rw [hsp, List.length_append, List.length_cons] at hlen
      rw [hsp', List.length_append]; omega
section
variable {P : Program} {A : Ann} {T : CallF} {f : FuncId} {bb : Nat} {ops : Array Oper} {env0 fin : Nat → V}
abbrev Cs := List Nat × List AO × Nat
/-- Operations that change nothing but their slots. -/
def AllC (P : Program) (A : Ann) (T : CallF) (f : FuncId) (bb : Nat) (ds : List (Option Nat)) (fin : Nat → V) (c : Cs) : List Oper → Prop
  | [] => True
  | o :: l => (∃ v, opD P A T f bb ds o ⟨fin, c.1, c.2.1, c.2.2⟩ = some (v, c) ∧ DstIs fin o.dst v) ∧ AllC P A T f bb ds fin c l
theorem AllC.get {c : Cs} {ds : List (Option Nat)} (hds : ops.toList.map (·.dst) = ds) : ∀ {l : List Oper} {o : Oper}, AllC P A T f bb ds fin c l → o ∈ l → ∃ v, opR P A T f bb ops o ⟨fin, c.1, c.2.1, c.2.2⟩ = some (v, c) ∧ ∀ d, o.dst = some d → v = fin d
  | [], o, _, h => by cases h
  | a :: l, o, H, h => by
    rcases List.mem_cons.1 h with rfl | h
    · obtain ⟨v, q1, q2⟩ := H.1
      exact ⟨v, by rw [← opD_eq hds]; exact q1, q2.all⟩
    · exact AllC.get hds H.2 h
theorem free_step1 (hf : freeOk ops = true) (h0 : ∀ x, (∀ o ∈ ops.toList, o.dst ≠ some x) → fin x = env0 x) {L : Nat → Bool} {i : Nat} {o : Oper} {c : Cs} (hi : ops[i]? = some o) (hp : ∀ j, ((Region.before ops).getD i 0).testBit j = true → L j = true) (H : ∃ v, opR P A T f bb ops o ⟨fin, c.1, c.2.1, c.2.2⟩ = some (v, c) ∧ ∀ d, o.dst = some d → v = fin d) :
    stepOp P A T f bb ops i ⟨envL ops fin env0 L, c.1, c.2.1, c.2.2⟩ = some ⟨envL ops fin env0 (onL L i), c.1, c.2.1, c.2.2⟩ := by
  have hlt : ∀ {j : Nat} {b : Oper}, ops[j]? = some b → j < ops.size := fun {j b} hj => by
    rcases Nat.lt_or_ge j ops.size with q | q
    · exact q
    · rw [Array.getElem?_eq_none q] at hj; cases hj
  obtain ⟨v, h1, h2⟩ := H
  obtain ⟨f1, f2, f3⟩ := opR_foot (s' := ⟨envL ops fin env0 L, c.1, c.2.1, c.2.2⟩) h1 (fun x hx => by
    symm
    show envL ops fin env0 L x = fin x
    unfold envL
    by_cases hany : ((List.range ops.size).any fun k => L k && decide ((ops[k]?).bind (·.dst) = some x)) = true
    · rw [if_pos hany]
    · rw [if_neg hany]
      refine (h0 x fun a ha hd => hany ?_).symm
      obtain ⟨k, hk, rfl⟩ := List.getElem_of_mem ha
      have hk2 : ops[k]? = some (ops.toList[k]) := by
        have : k < ops.size := by simpa using hk
        simp [Array.getElem?_eq_getElem this]
      rw [List.any_eq_true]
      refine ⟨k, List.mem_range.2 (hlt hk2), ?_⟩
      have := ((freeOk_inv hf i o hi).2 k _ x hk2 hd).1 hx
      rw [hp k this, hk2]
      simp only [Bool.true_and, decide_eq_true_eq, Option.bind_some]
      exact hd) (fun _ => rfl) (fun _ => rfl) (fun _ => rfl)
  unfold stepOp
  rw [hi]
  simp only [f3, Option.map_some, St.put, ite_self, envL_on hi h2]
/-- All but one come ahead of it or behind it. -/
def aroundOk (ops : Array Oper) (y : Nat) : Bool := (List.range ops.size).all fun i => if i < y then ((Region.before ops).getD y 0).testBit i else if i = y then true else ((Region.before ops).getD i 0).testBit y
theorem aroundOk_inv {y : Nat} (h : aroundOk ops y = true) {i : Nat} (hi : i < ops.size) : (i < y → ((Region.before ops).getD y 0).testBit i = true) ∧ (y < i → ((Region.before ops).getD i 0).testBit y = true) := by
  have := List.all_eq_true.1 h i (List.mem_range.2 hi)
  refine ⟨fun q => ?_, fun q => ?_⟩
  · rwa [if_pos q] at this
  · rwa [if_neg (by omega), if_neg (by omega)] at this
variable {base : Nat} {L : Lp} {Y : Rd} {s : St} {Q : Ex → St → Ex → Prop}
/-- A drawn region with one call of yield. -/
theorem ToL.free {id : Nat} {l1 l2 : List Oper} {d : Option Nat} {y : Operand} {as : Array Operand} {ats : Array TypeId} {ty : TypeId} {pos : String} {af : Array Edge} {ds : List (Option Nat)} (hds : ops.toList.map (·.dst) = ds) (vs : List V) {j : Ex} {objs' : List AO} {low' : Nat} (hm : P.follows .mixedOrders = true) (hc : CallOk P T) (hY : YLow base Y) (hf : freeOk ops = true) (hl : ops.toList = l1 ++ ⟨d, .call ⟨.value y, as, ats⟩, ty, pos, af, none⟩ :: l2) (har : aroundOk ops l1.length = true)
    (hv : DstIs (finD ds vs s.env) d (.bool (jOf j).isNone)) (hy : opd (finD ds vs s.env) y = .fn (.yield L.l) [] []) (hj : Y (as.toList.map fun x => demote (opd (finD ds vs s.env) x)) s.objs j objs' low')
    (H1 : AllC P A T f base ds (finD ds vs s.env) (s.toks, s.objs, s.low) l1) (H2 : AllC P A T f base ds (finD ds vs s.env) (s.toks, objs', if low' < s.low then low' else s.low) l2)
    (k : Q .norm ⟨finD ds vs s.env, s.toks, objs', if low' < s.low then low' else s.low⟩ j) : ToL P A T f base L Y (.region id ops true) s Q := by
  obtain ⟨fin, hfin⟩ : ∃ fin, fin = finD ds vs s.env := ⟨_, rfl⟩
  have h0 : ∀ x, (∀ o ∈ ops.toList, o.dst ≠ some x) → fin x = s.env x := fun x hx => by rw [hfin, ← hds, ← finE_D]; exact finE_ne hx
  rw [← hfin] at hv hy hj H1 H2 k
  refine ⟨.norm, _, j, ⟨(hY _ _ _ _ _ hj).after, fun n G1 W1 objs1 a w R hR hl0 hco hF hQ => ?_⟩, k⟩
  have hd : dstsOk n ops = true := hco
  have hsz : ops.size = l1.length + (l2.length + 1) := by rw [← Array.length_toList, hl]; simp
  have eo : ops[l1.length]? = some ⟨d, .call ⟨.value y, as, ats⟩, ty, pos, af, none⟩ := by rw [← Array.getElem?_toList, hl]; simp
  obtain ⟨yi, hyi⟩ : ∃ yi, yi = l1.length := ⟨_, rfl⟩
  rw [← hyi] at har eo hsz
  have hb := fun j b hj => (freeOk_inv hf j b hj).1
  have hbl : ∀ j b m, ops[j]? = some b → ((Region.before ops).getD j 0).testBit m = true → m < j := fun j b m hj hm =>
    before_closed ops j b m hj hm (fun k => k < j) (fun k o e hk ho he hbd => Nat.lt_trans (hb k o ho e he hbd) hk) (fun e he hbd => hb j b hj e he hbd)
  obtain ⟨c0, hc0⟩ : ∃ c0 : Cs, c0 = (s.toks, s.objs, s.low) := ⟨_, rfl⟩
  obtain ⟨c1, hc1⟩ : ∃ c1 : Cs, c1 = (s.toks, objs', if low' < s.low then low' else s.low) := ⟨_, rfl⟩
  rw [← hc0] at H1
  rw [← hc1] at H2
  obtain ⟨J, hJ⟩ : ∃ J : Array Bool → Act → World → Prop, J = fun listed a w => (listed.getD yi false = false ∧ In n G1 W1 objs1 base ⟨envL ops fin s.env (fun j => listed.getD j false), c0.1, c0.2.1, c0.2.2⟩ a w) ∨ (listed.getD yi false = true ∧ In n G1 (L.at (jOf j) W1) objs1 base ⟨envL ops fin s.env (fun j => listed.getD j false), c1.1, c1.2.1, c1.2.2⟩ a w) := ⟨_, rfl⟩
  obtain ⟨G, tl, hF⟩ := hF
  refine (wpIn_wide (n := 0)).1 (wpIn_region_any (F := FR none) hm (any_inJ J hb ?_ ?_ ops.size _ _ _ (by simp) ?_ (by rw [rest_all]; simp) ?_))
  · intro listed i hsl hcl hi a w hJl K hK
    obtain ⟨h1, o, ho, hall⟩ := mem_ready.1 hi
    have hil : i < ops.size := by
      rcases Nat.lt_or_ge i ops.size with q | q
      · exact q
      · rw [Array.getElem?_eq_none q] at ho; cases ho
    have hLi : listed.getD i false = false := by
      rw [Array.getD_eq_getD_getElem?, Array.getElem?_eq_getElem (by omega)] at h1 ⊢
      exact h1
    have hpre := fun j hj => before_closed ops i o j ho hj (fun k => listed.getD k false = true) hcl (fun e he hbd => hall e he hbd)
    have eon : (fun j => (listed.setIfInBounds i true).getD j false) = onL (fun j => listed.getD j false) i := by
      funext j
      unfold onL
      by_cases q : j = i
      · subst q
        rw [if_pos rfl]
        simp [Array.getD, hsl, hil]
      · rw [if_neg q]
        exact getD_set_ne false (fun z => q z.symm)
    have hmem : ∀ {i : Nat} {o : Oper}, ops[i]? = some o → (i < yi → o ∈ l1) ∧ (yi < i → o ∈ l2) := fun {i o} ho => by
      have hq : ops.toList[i]? = some o := by simpa using ho
      rw [hl] at hq
      refine ⟨fun q => ?_, fun q => ?_⟩
      · rw [List.getElem?_append_left (by omega)] at hq
        exact List.mem_of_getElem? hq
      · rw [List.getElem?_append_right (by omega)] at hq
        obtain ⟨m, hm⟩ : ∃ m, i - l1.length = m + 1 := ⟨i - l1.length - 1, by omega⟩
        rw [hm, List.getElem?_cons_succ] at hq
        exact List.mem_of_getElem? hq
    rw [hJ] at hJl
    rcases Nat.lt_trichotomy i yi with hlt | heq | hgt
    · -- ahead of the yield
      have hny : listed.getD yi false = false := by
        cases hly : listed.getD yi false with
        | false => rfl
        | true =>
          have := before_closed ops yi _ i eo ((aroundOk_inv har hil).1 hlt) (fun k => listed.getD k false = true) hcl (fun e he hbd => hcl yi _ e hly eo he hbd)
          rw [hLi] at this; cases this
      rcases hJl with ⟨-, hFl⟩ | ⟨hly, -⟩
      · refine step_in (r := none) (m := 0) hc hd hFl (free_step1 (L := fun j => listed.getD j false) hf h0 ho hpre (H1.get hds ((hmem ho).1 hlt))) fun a' w' hF' => hK a' w' ?_
        rw [hJ]
        exact .inl ⟨by rw [getD_set_ne false (by omega)]; exact hny, by rw [eon]; exact hF'⟩
      · rw [hny] at hly; cases hly
    · subst heq
      rcases hJl with ⟨-, hFl⟩ | ⟨hly, -⟩
      · rw [eo] at ho
        cases ho
        have hopd : ∀ x, (∀ t, x = .tmp t → t ∈ looks ops ⟨d, .call ⟨.value y, as, ats⟩, ty, pos, af, none⟩) → opd (envL ops fin s.env fun j => listed.getD j false) x = opd fin x := fun x hx => by
          cases x with
          | tmp t =>
            show envL ops fin s.env _ t = fin t
            have ht := hx t rfl
            unfold envL
            by_cases hany : ((List.range ops.size).any fun k => listed.getD k false && decide ((ops[k]?).bind (·.dst) = some t)) = true
            · rw [if_pos hany]
            · rw [if_neg hany]
              refine (h0 t fun b hb2 hd2 => hany ?_).symm
              obtain ⟨k, hk, rfl⟩ := List.getElem_of_mem hb2
              have hk2 : ops[k]? = some (ops.toList[k]) := by
                have : k < ops.size := by simpa using hk
                simp [Array.getElem?_eq_getElem this]
              rw [List.any_eq_true]
              refine ⟨k, List.mem_range.2 (by simpa using hk), ?_⟩
              have := ((freeOk_inv hf i _ eo).2 k _ t hk2 hd2).1 ht
              rw [hpre k this, hk2]
              simp only [Bool.true_and, decide_eq_true_eq, Option.bind_some]
              exact hd2
          | _ => rfl
        have hlk : ∀ x, x = y ∨ x ∈ as → ∀ t, x = .tmp t → t ∈ looks ops ⟨d, .call ⟨.value y, as, ats⟩, ty, pos, af, none⟩ := fun x hx t ht => by
          subst ht
          unfold looks
          refine List.mem_append_left _ (List.mem_filterMap.2 ⟨.tmp t, ?_, rfl⟩)
          show Operand.tmp t ∈ (Call.operands ⟨.value y, as, ats⟩).toList
          rcases hx with hx | hx
          · subst hx; simp [Call.operands]
          · simp [Call.operands, hx]
        have hargs : (as.toList.map fun x => demote (opd (envL ops fin s.env fun j => listed.getD j false) x)) = as.toList.map fun x => demote (opd fin x) := List.map_congr_left fun x hx => by rw [hopd x (hlk x (.inr (by simpa using hx)))]
        unfold wpOpIn
        rw [eo]
        simp only
        have hw : Region.wanted ⟨d, .call ⟨.value y, as, ats⟩, ty, pos, af, none⟩ (yielded ops a.tmps) = true := rfl
        rw [if_pos hw]
        refine yield_in (o := ⟨d, .call ⟨.value y, as, ats⟩, ty, pos, af, none⟩) (e := j) (objs' := objs') (low' := low') hFl hl0 hR rfl (by
          show opd (envL ops fin s.env _) y = _
          rw [hopd y (hlk y (.inl rfl))]; exact hy) (by
          show Y (as.toList.map fun x => demote (opd (envL ops fin s.env _) x)) c0.2.1 j objs' low'
          rw [hargs, hc0]; exact hj) (dsts_get hd eo) fun a2 w2 hF2 => hK a2 w2 ?_
        rw [hJ]
        refine .inr ⟨by simp [Array.getD, hsl, hil], ?_⟩
        have e1 := envL_on (env0 := s.env) (L := fun j => listed.getD j false) eo (fin := fin) (v := .bool (jOf j).isNone) hv.all
        rw [eon, ← e1]
        have e2 : (St.put ⟨envL ops fin s.env fun j => listed.getD j false, c0.1, c0.2.1, c0.2.2⟩ d (.bool (jOf j).isNone, c0.1, objs', if low' < c0.2.2 then low' else c0.2.2)) = ⟨put (envL ops fin s.env fun j => listed.getD j false) d (.bool (jOf j).isNone), c1.1, c1.2.1, c1.2.2⟩ := by rw [hc0, hc1]; rfl
        rw [← e2]; exact hF2
      · rw [hLi] at hly; cases hly
    · have hly : listed.getD yi false = true := hpre yi ((aroundOk_inv har hil).2 hgt)
      rcases hJl with ⟨hny, -⟩ | ⟨-, hFl⟩
      · rw [hly] at hny; cases hny
      · refine step_in (r := none) (m := 0) hc hd hFl (free_step1 (L := fun j => listed.getD j false) hf h0 ho hpre (H2.get hds ((hmem ho).2 hgt))) fun a' w' hF' => hK a' w' ?_
        rw [hJ]
        exact .inr ⟨by rw [getD_set_ne false (by omega)]; exact hly, by rw [eon]; exact hF'⟩
  · intro listed a w hsl hall hJl
    have e : (fun j => listed.getD j false) = fun j => decide (j < ops.size) := by
      funext j
      rcases Nat.lt_or_ge j ops.size with q | q
      · rw [hall j q]; simp [q]
      · rw [Array.getD_eq_getD_getElem?, Array.getElem?_eq_none (by omega)]; simp; omega
    rw [hJ] at hJl
    rcases hJl with ⟨hny, -⟩ | ⟨-, hFl⟩
    · rw [hall yi (by omega)] at hny; cases hny
    · rw [e, envL_all h0, hc1] at hFl
      exact hQ a w hFl
  · intro k o e hk ho he hbd
    have hkl : k < ops.size := by
      rcases Nat.lt_or_ge k ops.size with q | q
      · exact q
      · rw [Array.getElem?_eq_none q] at ho; cases ho
    simp [Array.getD, hkl] at hk
  · have e : (fun j => (Array.replicate ops.size false).getD j false) = fun _ => false := by
      funext j
      rw [Array.getD_eq_getD_getElem?]
      simp only [Array.getElem?_replicate]
      split <;> rfl
    have e1 : envL ops fin s.env (fun _ => false) = s.env := by
      funext d; unfold envL; rw [if_neg (by simp)]
    rw [hJ]
    refine .inl ⟨congrFun e yi, ?_⟩
    rw [e, e1, hc0]
    exact ⟨G, tl, hF.drawn _⟩
end
end Go.Ab
