import Derived.Test.YtdfcbophcfjakaaAb15
import Derived.Orders
import Derived.RangeFuncRecord
set_option linter.unusedSimpArgs false
set_option linter.unusedVariables false
set_option linter.unusedSectionVars false
/- Regions and code in a frame. -/
namespace Go.Ab
/-- What a frame owes at its end: the marks of the loops over functions that it has been through. -/
def markOf (b : Nat) : Deferred := { target := .collected b, args := #[] }
def Marks (E : Nat) (w : World) (ds : List Deferred) : Prop := ∃ bs : List Nat, ds = bs.map markOf ∧ bs.Nodup ∧ ∀ b ∈ bs, E ≤ b ∧ w.heap[b]? = some (.deferred (some []))
theorem Marks.nil (E : Nat) (w : World) : Marks E w [] := ⟨[], rfl, List.nodup_nil, fun _ h => by cases h⟩
theorem Marks.mono {E : Nat} {w w' : World} {ds : List Deferred} (h : Marks E w ds) (hw : ∀ (b : Nat) (o : Obj), w.heap[b]? = some o → heldObj o = true → w'.heap[b]? = some o) : Marks E w' ds := by
  obtain ⟨bs, h1, h2, h3⟩ := h
  exact ⟨bs, h1, h2, fun b hb => ⟨(h3 b hb).1, hw b _ (h3 b hb).2 rfl⟩⟩
structure Fr (n : Nat) (G0 : Gh) (w0 : World) (objs0 : List AO) (b : Nat) (s : St) (a : Act) (w : World) (G : Gh) (tl : Nat → Nat → Option (Nat × Nat)) : Prop where
  env : EnvR G tl w0.heap.size w s.env a
  dfr : Marks w0.heap.size w a.defers
  size : n ≤ a.tmps.size
  store : Store G tl w0.heap.size s.toks s.objs w
  gle : GLe G0 G
  wle : WLe G0 w0 w
  fr : ∀ b, b < w0.heap.size → ¬ Owned G0 objs0 b → w.heap[b]? = w0.heap[b]?
  prov : ∀ id b, OwnedAt G s.objs id b → w0.heap.size ≤ b ∨ OwnedAt G0 objs0 id b
  stn : ∀ b x, b < w0.heap.size → G.st b x → G0.st b x
  len : objs0.length ≤ s.objs.length
  low : ∀ id, id < s.low → id < objs0.length → s.objs[id]? = objs0[id]?
  clean : Clean b s.objs
  bl : b ≤ objs0.length
  g0 : ∀ id ver, objs0.length ≤ id → G0.loc id ver = none
def In (n : Nat) (G0 : Gh) (w0 : World) (objs0 : List AO) (b : Nat) (s : St) (a : Act) (w : World) : Prop := ∃ G tl, Fr n G0 w0 objs0 b s a w G tl
theorem EnvR.put {G G' : Gh} {tl tl' : Nat → Nat → Option (Nat × Nat)} {E : Nat} {w w' : World} {env : Nat → V} {a : Act} {v : V} {c : Value} {d : Option Nat} (h : EnvR G tl E w env a) (hg : GLe G G') (ht : TLe tl tl' w) (hw : WLe G w w')
    (hd : ∀ i, d = some i → i < a.tmps.size) (hv : VR G' w' v c) (hk : TokT tl' E w' v c) : EnvR G' tl' E w' (Ab.put env d v) (a.put d c) := by
  intro t
  have old : VR G' w' (env t) (a.tmps.getD t Go.undef) ∧ TokT tl' E w' (env t) (a.tmps.getD t Go.undef) := ⟨(h t).1.mono hg hw, (h t).2.mono ht hw⟩
  cases d with
  | none => exact old
  | some d =>
    simp only [Ab.put, upd, Act.put]
    by_cases e : t = d
    · subst e
      have hlt := hd t rfl
      rw [if_pos rfl]
      have e1 : (a.tmps.setIfInBounds t c).getD t Go.undef = c := by simp [Array.getD, hlt]
      rw [e1]; exact ⟨hv, hk⟩
    · rw [if_neg e]
      have e1 : (a.tmps.setIfInBounds d c).getD t Go.undef = a.tmps.getD t Go.undef := by
        rw [Array.getD_eq_getD_getElem?, Array.getD_eq_getD_getElem?, Array.getElem?_setIfInBounds_ne (fun q => e q.symm)]
      rw [e1]; exact old
section
variable {P : Program} {A : Ann} {call : CallF} {f : FuncId} {ops : Array Oper} {n : Nat} {G0 : Gh} {w0 : World} {objs0 : List AO} {bb : Nat} {s s' : St} {a : Act} {w : World} {G : Gh} {tl : Nat → Nat → Option (Nat × Nat)}
theorem Fr.step {r : V × List Nat × List AO × Nat} {c : Value} {w' : World} {G' : Gh} {tl' : Nat → Nat → Option (Nat × Nat)} {d : Option Nat} (h : Fr n G0 w0 objs0 bb s a w G tl) (hd : ∀ i, d = some i → i < n) (hr : ResOk G tl w0.heap.size s.objs w r.1 r.2.1 r.2.2.1 c w' G' tl')
    (hl : LowOk bb s.objs s.low r.2.2.1 r.2.2.2) : Fr n G0 w0 objs0 bb (s.put d r) (a.put d c) w' G' tl' := by
  refine ⟨h.env.put hr.gle hr.tle hr.wle (fun i hi => Nat.lt_of_lt_of_le (hd i hi) h.size) hr.vr hr.tk, ?_, ?_, hr.store, h.gle.trans hr.gle, h.wle.trans h.gle hr.wle, fun b hb hno => ?_, fun id b hb => ?_, fun b x hb hx => h.stn b x hb (hr.stn b x hb hx), Nat.le_trans h.len hl.len, fun id h1 h2 => ?_, hl.clean (Nat.le_trans h.bl h.len) h.clean, h.bl, h.g0⟩
  · cases d <;> exact h.dfr.mono hr.wle.oth
  · cases d with
    | none => exact h.size
    | some d => simp only [Act.put, Array.size_setIfInBounds]; exact h.size
  · rw [hr.fr b hb, h.fr b hb hno]
    rintro ⟨id, hid⟩
    rcases h.prov id b hid with q | q
    · omega
    · exact hno q.owned
  · rcases hr.prov id b hb with q | q
    · exact .inl q
    · exact h.prov id b q
  · have h3 : s.objs[id]? = objs0[id]? := h.low id (Nat.lt_of_lt_of_le h1 hl.le) h2
    rw [← h3]
    exact hl.same id h1 (Nat.lt_of_lt_of_le h2 h.len)
def dstsOk (n : Nat) (ops : Array Oper) : Bool := ops.toList.all fun o => match o.dst with | some d => decide (d < n) | none => true
theorem dsts_get {i : Nat} {o : Oper} (h : dstsOk n ops = true) (hi : ops[i]? = some o) : ∀ d, o.dst = some d → d < n := by
  intro d hd
  unfold dstsOk at h
  rw [List.all_eq_true] at h
  have := h o (by rw [Array.mem_toList_iff]; exact Array.mem_of_getElem? hi)
  rw [hd] at this
  simpa using this
theorem step_wp {i : Nat} {K : Act → World → Prop} {Q : Exit → Act → World → Prop} (hc : CallOk P call) (hd : dstsOk n ops = true) (hF : In n G0 w0 objs0 bb s a w) (h : stepOp P A call f bb ops i s = some s')
    (hK : ∀ a' w', In n G0 w0 objs0 bb s' a' w' → K a' w') : wpOp P ops Q i K a w := by
  obtain ⟨G, tl, hF⟩ := hF
  unfold stepOp at h
  unfold wpOp
  cases hi : ops[i]? with
  | none => rw [hi] at h; cases h
  | some o =>
    rw [hi] at h
    simp only at h ⊢
    have hdo := dsts_get hd hi
    have run : ∀ r, evalOp P A call f bb o s = some r → s' = s.put o.dst r → o.wp P a w K Q := fun r hr he =>
      op_wp hc hF.env hF.store hF.wle.size hr fun c w' G' tl' hres => hK _ _ (by rw [he]; exact ⟨G', tl', hF.step hdo hres (op_low hc hr)⟩)
    cases hr : opR P A call f bb ops o s with
    | none => rw [hr] at h; cases h
    | some r =>
      rw [hr] at h
      have he : s' = s.put o.dst r := (Option.some.inj h).symm
      unfold opR at hr
      split at hr
      · rename_i hg
        have hw : Region.wanted o (yielded ops a.tmps) = true := by unfold Region.wanted; rw [hg]
        rw [if_pos hw]
        exact .inl (run r hr he)
      · rename_i j want hg
        split at hr
        case h_3 => cases hr
        case h_2 hb =>
          have hy : yielded ops a.tmps j ≠ some want := by
            cases hq : (ops[j]?).bind (·.dst) with
            | none => rw [hq] at hb; cases hb
            | some d =>
              rw [hq] at hb
              have hb' : s.env d = .undef := by simpa using hb
              have hx := (hF.env d).1
              rw [hb'] at hx
              have e := hx.undef_inv
              unfold yielded
              rw [hq]
              simp only [Option.bind_some]
              cases ht : a.tmps[d]? with
              | none => simp
              | some u =>
                rw [Array.getD_eq_getD_getElem?, ht] at e
                simp only [Option.getD_some] at e
                cases u with
                | bool b => exact absurd rfl (e b)
                | _ => simp
          have hw : Region.wanted o (yielded ops a.tmps) = false := by
            unfold Region.wanted; rw [hg]; simp only; simpa using hy
          rw [if_neg (by rw [hw]; simp)]
          cases hr
          refine hK _ _ ?_
          rw [he]
          exact ⟨G, tl, hF.step hdo (ResOk.same hF.store (.undef (fun _ => nofun)) (flatTok (by simp) (by simp))) (LowOk.refl ..)⟩
        rename_i b hb
        have hy : yielded ops a.tmps j = some b := by
          cases hq : (ops[j]?).bind (·.dst) with
          | none => rw [hq] at hb; cases hb
          | some d =>
            rw [hq] at hb
            have hb' : s.env d = .bool b := by simpa using hb
            have hx := (hF.env d).1
            rw [hb'] at hx
            have e := hx.bool_inv
            unfold yielded
            rw [hq]
            simp only [Option.bind_some]
            cases ht : a.tmps[d]? with
            | none => rw [Array.getD_eq_getD_getElem?, ht] at e; cases e
            | some u => rw [Array.getD_eq_getD_getElem?, ht] at e; simp only [Option.getD_some] at e; rw [e]
        by_cases hbw : b = want
        · rw [if_pos hbw] at hr
          have hw : Region.wanted o (yielded ops a.tmps) = true := by unfold Region.wanted; rw [hg]; simp only; rw [hy, hbw]; simp
          rw [if_pos hw]
          exact .inl (run r hr he)
        · rw [if_neg hbw] at hr
          have hw : Region.wanted o (yielded ops a.tmps) = false := by
            unfold Region.wanted; rw [hg]; simp only; rw [hy]; simp [hbw]
          rw [if_neg (by rw [hw]; simp)]
          cases hr
          refine hK _ _ ?_
          rw [he]
          exact ⟨G, tl, hF.step hdo (ResOk.same hF.store (.undef (fun _ => nofun)) (flatTok (by simp) (by simp))) (LowOk.refl ..)⟩
theorem ops_wp {Q : Exit → Act → World → Prop} (hc : CallOk P call) (hd : dstsOk n ops = true) (hQ : ∀ a' w', In n G0 w0 objs0 bb s' a' w' → Q .normal a' w') : ∀ (l : List Nat) (s : St) (a : Act) (w : World), In n G0 w0 objs0 bb s a w → evalOps P A call f bb ops l s = some s' → wpOps P ops Q l a w := by
  intro l
  induction l with
  | nil => intro s a w hF h; simp only [evalOps] at h; cases h; exact hQ a w hF
  | cons i l ih =>
    intro s a w hF h
    simp only [evalOps] at h
    cases h1 : stepOp P A call f bb ops i s with
    | none => rw [h1] at h; cases h
    | some s1 =>
      rw [h1] at h
      rw [wpOps_cons]
      exact step_wp hc hd hF h1 fun a' w' hF' => ih s1 a' w' hF' h
/-! draws -/
def Closed (ops : Array Oper) (S : Nat → Prop) : Prop := ∀ k o e, S k → ops[k]? = some o → e ∈ o.after → Region.binds .any e = true → S e.on
theorem before_closed (ops : Array Oper) : ∀ j o i, ops[j]? = some o → ((Region.before ops).getD j 0).testBit i = true → ∀ S : Nat → Prop, Closed ops S → (∀ e ∈ o.after, Region.binds .any e = true → S e.on) → S i := by
  have key : (Region.before ops).size = ops.size ∧ ∀ j o i, j < ops.size → ops[j]? = some o → ((Region.before ops).getD j 0).testBit i = true → ∀ S : Nat → Prop, Closed ops S → (∀ e ∈ o.after, Region.binds .any e = true → S e.on) → S i := by
    unfold Region.before
    refine Array.foldl_induction (motive := fun m (acc : Array Nat) => acc.size = m ∧ ∀ j o i, j < m → ops[j]? = some o → (acc.getD j 0).testBit i = true → ∀ S : Nat → Prop, Closed ops S → (∀ e ∈ o.after, Region.binds .any e = true → S e.on) → S i) ⟨rfl, fun j o i h => absurd h (by omega)⟩ ?_
    intro m acc ⟨h1, h2⟩
    refine ⟨by simp [h1], fun j o i hj ho hb S hS he => ?_⟩
    rcases Nat.lt_or_ge j m with hlt | hge
    · rw [Array.getD_eq_getD_getElem?, Array.getElem?_push, if_neg (by omega), ← Array.getD_eq_getD_getElem?] at hb
      exact h2 j o i hlt ho hb S hS he
    · have hjm : j = m.1 := by omega
      subst hjm
      rw [Array.getD_eq_getD_getElem?, Array.getElem?_push, if_pos h1.symm, Option.getD_some] at hb
      have ho' : ops[m] = o := by
        have := Array.getElem?_eq_getElem m.2
        rw [ho] at this; exact (Option.some.inj this).symm
      have inner : ∀ (es : List Edge) (x : Nat), (∀ e ∈ es, e ∈ o.after) → (x.testBit i = true → S i) → ((es.foldl (fun s e => if Region.binds .any e then s ||| 2 ^ e.on ||| acc.getD e.on 0 else s) x).testBit i = true → S i) := by
        intro es
        induction es with
        | nil => intro x _ h; exact h
        | cons e es ih =>
          intro x hin h
          simp only [List.foldl_cons]
          refine ih _ (fun e' he' => hin e' (by simp [he'])) ?_
          intro hx
          by_cases hbd : Region.binds .any e = true
          · rw [if_pos hbd] at hx
            rw [Nat.testBit_or, Nat.testBit_or] at hx
            have hse := he e (hin e (by simp)) hbd
            cases hx1 : x.testBit i with
            | true => exact h hx1
            | false =>
              rw [hx1] at hx
              cases hx2 : (2 ^ e.on).testBit i with
              | true =>
                rw [Nat.testBit_two_pow] at hx2
                have : e.on = i := by simpa using hx2
                rw [← this]; exact hse
              | false =>
                rw [hx2] at hx
                have hx3 : (acc.getD e.on 0).testBit i = true := by simpa using hx
                rcases Nat.lt_or_ge e.on m.1 with hq | hq
                · cases hoo : ops[e.on]? with
                  | none => rw [Array.getElem?_eq_none_iff] at hoo; omega
                  | some oo => exact h2 e.on oo i hq hoo hx3 S hS (fun e2 he2 hb2 => hS e.on oo e2 hse hoo he2 hb2)
                · rw [Array.getD_eq_getD_getElem?, Array.getElem?_eq_none (by omega)] at hx3
                  simp at hx3
          · rw [if_neg hbd] at hx; exact h hx
      have hb' : ((ops[m].after.toList.foldl (fun s e => if Region.binds .any e then s ||| 2 ^ e.on ||| acc.getD e.on 0 else s) 0).testBit i) = true := by
        rw [Array.foldl_toList]; exact hb
      rw [ho'] at hb'
      exact inner o.after.toList 0 (fun e he => by simpa using he) (by simp) hb'
  intro j o i ho
  exact key.2 j o i (by rcases Nat.lt_or_ge j ops.size with h | h; exact h; rw [Array.getElem?_eq_none h] at ho; cases ho) ho
theorem range_split {m i : Nat} (h : i < m) : List.range m = List.range i ++ i :: ((List.range (m - i - 1)).map (fun x => i + (1 + x))) := by
  have e : m = i + (1 + (m - i - 1)) := by omega
  rw [e, List.range_add, List.range_add]
  simp [List.range_succ, Function.comp_def]
theorem drawOk_inv (h : drawOk A f ops = true) : ∀ j b, ops[j]? = some b → (∀ e ∈ b.after, Region.binds .any e = true → e.on < j) ∧ ∀ i, i < j → ((Region.before ops).getD j 0).testBit i = true ∨ ∃ a, ops[i]? = some a ∧ apart A f ops a b = true := by
  unfold drawOk at h
  simp only [List.all_eq_true, List.mem_range] at h
  refine fun j b hj => ?_
  have hlt : j < ops.size := by
    rcases Nat.lt_or_ge j ops.size with q | q
    · exact q
    · rw [Array.getElem?_eq_none q] at hj; cases hj
  have h2 := h j hlt
  rw [hj] at h2
  simp only [Bool.and_eq_true, List.all_eq_true, List.mem_range] at h2
  refine ⟨fun e he hbd => ?_, fun i hi => ?_⟩
  · have := Array.all_eq_true_iff_forall_mem.1 h2.1 e he
    rw [hbd] at this
    simpa using this
  · have := h2.2 i hi
    rw [Bool.or_eq_true] at this
    rcases this with q | q
    · exact .inl q
    · right
      cases hi2 : ops[i]? with
      | none => rw [hi2] at q; cases q
      | some a => rw [hi2] at q; exact ⟨a, rfl, q⟩
def rest (ops : Array Oper) (listed : Array Bool) : List Nat := (List.range ops.size).filter fun i => !listed.getD i true
theorem any_wp {Q : Exit → Act → World → Prop} (hc : CallOk P call) (hd : dstsOk n ops = true) (hdr : drawOk A f ops = true) (hQ : ∀ a' w', In n G0 w0 objs0 bb s' a' w' → Q .normal a' w') :
    ∀ (fuel : Nat) (listed : Array Bool) (s : St) (a : Act) (w : World), listed.size = ops.size → Closed ops (fun k => listed.getD k false = true) → (rest ops listed).length ≤ fuel → In n G0 w0 objs0 bb s a w →
      evalOps P A call f bb ops (rest ops listed) s = some s' → wpAny P .any ops Q fuel listed a w := by
  have hdr := drawOk_inv hdr
  have tf : ∀ {listed : Array Bool} {k : Nat}, listed.size = ops.size → k < ops.size → listed.getD k true = listed.getD k false := by
    intro listed k h1 h2
    rw [Array.getD_eq_getD_getElem?, Array.getD_eq_getD_getElem?, Array.getElem?_eq_getElem (by omega)]
    rfl
  have hmt : ∀ listed : Array Bool, listed.size = ops.size → Region.ready .any ops listed = [] → rest ops listed = [] := by
    intro listed hsz hr
    -- the least of those that are left is ready
    have : ∀ m, m < ops.size → (∀ k, k < m → listed.getD k false = true) → listed.getD m false = true := by
      intro m hm hall
      cases hl : listed.getD m false with
      | true => rfl
      | false =>
        have : m ∈ Region.ready .any ops listed := by
          rw [mem_ready]
          refine ⟨by rw [tf hsz hm]; exact hl, ops[m], Array.getElem?_eq_getElem hm, fun e he hb => hall _ ((hdr m ops[m] (Array.getElem?_eq_getElem hm)).1 e he hb)⟩
        rw [hr] at this; cases this
    have all : ∀ m, m ≤ ops.size → ∀ k, k < m → listed.getD k false = true := by
      intro m
      induction m with
      | zero => intro _ k hk; omega
      | succ m ih =>
        intro hm k hk
        rcases Nat.lt_or_ge k m with q | q
        · exact ih (by omega) k q
        · have : k = m := by omega
          subst this
          exact this k (by omega) (ih (by omega))
    unfold rest
    rw [List.filter_eq_nil_iff]
    intro k hk
    rw [List.mem_range] at hk
    rw [tf hsz hk, all _ (Nat.le_refl _) k hk]; simp
  intro fuel
  induction fuel with
  | zero =>
    intro listed s a w hsz hcl hlen hF h
    have hnil : rest ops listed = [] := List.eq_nil_of_length_eq_zero (by omega)
    refine ⟨?_, ?_⟩
    · cases hr : Region.ready .any ops listed with
      | nil => rfl
      | cons i l =>
        have hm : i ∈ Region.ready .any ops listed := by rw [hr]; simp
        obtain ⟨h0, o, ho, _⟩ := mem_ready.1 hm
        have : i ∈ rest ops listed := by
          have hlt : i < ops.size := by
            rcases Nat.lt_or_ge i ops.size with q | q
            · exact q
            · rw [Array.getElem?_eq_none q] at ho; cases ho
          unfold rest; rw [List.mem_filter, List.mem_range]
          exact ⟨hlt, by rw [h0]; rfl⟩
        rw [hnil] at this; cases this
    · rw [hnil] at h; simp only [evalOps] at h; cases h; exact hQ a w hF
  | succ fuel ih =>
    intro listed s a w hsz hcl hlen hF h
    refine ⟨fun hr => ?_, fun i hi => ?_⟩
    · rw [hmt listed hsz hr] at h; simp only [evalOps] at h; cases h; exact hQ a w hF
    · obtain ⟨h0, o, ho, hall⟩ := mem_ready.1 hi
      have hlt : i < ops.size := by
        rcases Nat.lt_or_ge i ops.size with q | q
        · exact q
        · rw [Array.getElem?_eq_none q] at ho; cases ho
      have hin : i < listed.size := by omega
      -- the list, cut at i
      have hsp : rest ops listed = (List.range i).filter (fun k => !listed.getD k true) ++ i :: (((List.range (ops.size - i - 1)).map (fun x => i + (1 + x))).filter fun k => !listed.getD k true) := by
        unfold rest
        rw [range_split hlt, List.filter_append, List.filter_cons, if_pos (by rw [h0]; rfl)]
      have hsp' : rest ops (listed.setIfInBounds i true) = (List.range i).filter (fun k => !listed.getD k true) ++ (((List.range (ops.size - i - 1)).map (fun x => i + (1 + x))).filter fun k => !listed.getD k true) := by
        unfold rest
        rw [range_split hlt, List.filter_append, List.filter_cons, if_neg (by simp [Array.getD, hin])]
        congr 1
        · refine List.filter_congr fun k hk => ?_
          rw [List.mem_range] at hk
          rw [getD_set_ne true (by omega)]
        · refine List.filter_congr fun k hk => ?_
          rw [List.mem_map] at hk
          obtain ⟨x, _, rfl⟩ := hk
          rw [getD_set_ne true (by omega)]
      rw [hsp] at h
      obtain ⟨s1, q1, q2⟩ := evalOps_front ho _ s (fun j hj => by
        rw [List.mem_filter, List.mem_range] at hj
        obtain ⟨hji, hjl⟩ := hj
        rcases (hdr i o ho).2 j hji with hb | hb
        · have := before_closed ops i o j ho hb (fun k => listed.getD k false = true) hcl hall
          rw [tf hsz (by omega), this] at hjl; cases hjl
        · exact hb) h
      refine step_wp hc hd hF q1 fun a' w' hF' => ih _ s1 a' w' (by simpa using hsz) ?_ ?_ hF' (by rw [hsp']; exact q2)
      · intro k o2 e hk ho2 he hb
        by_cases hki : k = i
        · subst hki
          rw [ho] at ho2; cases ho2
          exact getD_set_true (hall e he hb)
        · have hk2 : (listed.setIfInBounds i true).getD k false = true := hk
          rw [getD_set_ne false (fun q => hki q.symm)] at hk2
          exact getD_set_true (hcl k o2 e hk2 ho2 he hb)
      · rw [hsp, List.length_append, List.length_cons] at hlen
        rw [hsp', List.length_append]; omega
theorem rest_all : rest ops (Array.replicate ops.size false) = List.range ops.size := by
  unfold rest
  rw [List.filter_eq_self]
  intro k hk
  rw [List.mem_range] at hk
  simp [Array.getD, hk]
theorem Fr.drawn (h : Fr n G0 w0 objs0 bb s a w G tl) (d : Nat) : Fr n G0 w0 objs0 bb s a { w with drawn := d } G tl := by
  have hw : WLe G w { w with drawn := d } := ⟨Nat.le_refl _, fun _ _ _ => rfl, fun b arr el fz h => ⟨arr, fz, h, rfl⟩, rfl, rfl, rfl, fun _ _ h _ => h⟩
  refine ⟨fun t => ⟨(h.env t).1.mono (GLe.refl G) hw, (h.env t).2.mono (TLe.refl tl w) hw⟩, h.dfr.mono hw.oth, h.size, ⟨fun id cs ver hi => ?_, h.store.vers, h.store.news, fun t m ht => ?_, h.store.tnew, h.store.tnews, h.store.oo, h.store.tt, h.store.ot, h.store.lt, h.store.tbl, h.store.maps.keep (GLe.refl G) hw (fun _ _ _ h => h) (fun _ _ _ _ => rfl) (fun _ _ _ _ _ _ _ _ _ h => h) (fun _ _ h => h)⟩, h.gle, h.wle.trans h.gle hw, h.fr, h.prov, h.stn, h.len, h.low, h.clean, h.bl, h.g0⟩
  · obtain ⟨b, o, arr, el, h1, h2, h3, h4⟩ := h.store.cellsR id cs ver hi
    exact ⟨b, o, arr, el, h1, ⟨h2.at_, h2.fit⟩, fun j hj => (h3 j hj).mono (GLe.refl G) hw, h4⟩
  · obtain ⟨b, o, arr, el, h1, h2, h3, h4⟩ := h.store.toksR t m ht
    exact ⟨b, o, arr, el, h1, ⟨h2.at_, h2.fit⟩, h3, h4⟩
theorem region_wp {id : Nat} {draw : Bool} {Q : Exit → Act → World → Prop} (hm : P.follows .mixedOrders = true) (hc : CallOk P call) (hd : dstsOk n ops = true) (hdr : draw = true → drawOk A f ops = true) (hF : In n G0 w0 objs0 bb s a w)
    (h : evalOps P A call f bb ops (List.range ops.size) s = some s') (hQ : ∀ a' w', In n G0 w0 objs0 bb s' a' w' → Q .normal a' w') : (Code.region id ops draw).wp P Q a w := by
  cases draw with
  | false => exact wp_region (ops_wp hc hd hQ _ s a w hF h)
  | true =>
    have hdr := hdr rfl
    refine wp_region_draw fun t => ?_
    simp only [Region.schedule, hm, Bool.true_or, if_true]
    obtain ⟨G, tl, hF⟩ := hF
    refine wpAny_sound ops.size t _ a _ (any_wp hc hd hdr hQ ops.size _ s a _ (by simp) ?_ (by rw [rest_all]; simp) ⟨G, tl, hF.drawn _⟩ (by rw [rest_all]; exact h))
    intro k o e hk ho he hb
    have hkl : k < ops.size := by
      rcases Nat.lt_or_ge k ops.size with q | q
      · exact q
      · rw [Array.getElem?_eq_none q] at ho; cases ho
    simp [Array.getD, hkl] at hk
/-! code -/
theorem wp_loop_ix {c : Code} {Q : Exit → Act → World → Prop} (I : Nat → Act → World → Prop) {m : Nat} (h0 : I m a w) (round : ∀ m a w, I m a w → c.wp P (Exit.then (fun a' w' => ∃ k, k < m ∧ I k a' w') Q) a w) : (Code.loop c).wp P Q a w := by
  intro b k cs
  have key : ∀ m a w, I m a w → ∃ e a' w', Q e a' w' ∧ Arrives P (lone (b.at a (.code c :: .inLoop c :: k)) cs w) b k cs e a' w' := by
    intro m
    induction m using Nat.strongRecOn with
    | _ m ih =>
      intro a w hI
      obtain ⟨e, a₁, w₁, hq, harr⟩ := round m a w hI b (.inLoop c :: k) cs
      cases e with
      | normal =>
        obtain ⟨k', hlt, hI₁⟩ := hq
        obtain ⟨e₂, a₂, w₂, hq₂, harr₂⟩ := ih k' hlt a₁ w₁ hI₁
        exact ⟨e₂, a₂, w₂, hq₂, .of_steps (Steps.trans harr (.one step_inLoop)) harr₂⟩
      | exit id => exact ⟨_, a₁, w₁, hq, .pass (x := .inLoop c) rfl (fun _ _ => .inl (by simp)) harr⟩
      | goto l => exact ⟨_, a₁, w₁, hq, .pass (x := .inLoop c) rfl (fun _ _ => .inl (by simp)) harr⟩
      | ret => exact ⟨_, a₁, w₁, hq, .pass (x := .inLoop c) rfl (fun _ _ => .inl (by simp)) harr⟩
      | panic ch => exact ⟨_, a₁, w₁, hq, .pass (x := .inLoop c) rfl (fun _ _ => .inl (by simp)) harr⟩
      | outgrown => exact ⟨_, a₁, w₁, hq, .pass (x := .inLoop c) rfl (fun _ _ => .inl (by simp)) harr⟩
  obtain ⟨e, a', w', hq, harr⟩ := key m a w h0
  exact ⟨e, a', w', hq, .of_steps (.one step_loop) harr⟩
def codeOk (n : Nat) : Code → Bool
  | .region _ ops _ => dstsOk n ops
  | .seq x y => codeOk n x && codeOk n y
  | .cond _ x y => codeOk n x && codeOk n y
  | .block _ x => codeOk n x
  | .loop x => codeOk n x
  | .rangeFunc _ ps x y => ps.toList.all (fun p => decide (p < n)) && codeOk n x && codeOk n y
  | _ => true
def Ex.out : Ex → Exit
  | .norm => .normal
  | .ret => .ret
  | .exit id => .exit id
theorem evalC_ok (hm : P.follows .mixedOrders = true) (hc : CallOk P call) : ∀ (fuel : Nat) (c : Code) (s : St) (a : Act) (w : World) (e : Ex) (s' : St) (Q : Exit → Act → World → Prop), codeOk n c = true → drawsOk A f c = true → evalC P A call f bb fuel c s = some (e, s') → In n G0 w0 objs0 bb s a w →
    (∀ a' w', In n G0 w0 objs0 bb s' a' w' → Q e.out a' w') → c.wp P Q a w := by
  intro fuel
  induction fuel using Nat.strongRecOn with
  | _ fuel ih =>
    intro c s a w e s' Q hok hdk h hF hQ
    cases fuel with
    | zero => simp only [evalC] at h; cases h
    | succ fuel =>
      cases c with
      | skip => simp only [evalC] at h; cases h; exact wp_skip (hQ a w hF)
      | region id ops draw =>
        simp only [evalC] at h
        cases ho : evalOps P A call f bb ops (List.range ops.size) s with
        | none => rw [ho] at h; cases h
        | some s1 =>
          rw [ho] at h; cases h
          exact region_wp hm hc (by simpa [codeOk] using hok) (fun hq => by rw [hq] at hdk; simpa [drawsOk] using hdk) hF ho hQ
      | seq x y =>
        simp only [codeOk, Bool.and_eq_true] at hok
        simp only [drawsOk, Bool.and_eq_true] at hdk
        simp only [evalC] at h
        refine wp_seq ?_
        split at h
        · rename_i s1 h1
          exact ih fuel (by omega) x s a w _ _ _ hok.1 hdk.1 h1 hF fun a' w' hF' => ih fuel (by omega) y s1 a' w' _ _ _ hok.2 hdk.2 h hF' hQ
        · rename_i h1
          refine ih fuel (by omega) x s a w _ _ _ hok.1 hdk.1 h hF fun a' w' hF' => ?_
          cases e with
          | norm => exact absurd h (h1 s')
          | ret => exact hQ a' w' hF'
          | exit id => exact hQ a' w' hF'
      | cond c x y =>
        simp only [codeOk, Bool.and_eq_true] at hok
        simp only [drawsOk, Bool.and_eq_true] at hdk
        simp only [evalC] at h
        split at h
        case h_2 => cases h
        rename_i t ht
        obtain ⟨G, tl, hF1⟩ := hF
        have hx := opd_vr hF1.env c
        rw [ht] at hx
        refine wp_cond hx.bool_inv (ih fuel (by omega) _ s a w _ _ _ ?_ ?_ h ⟨G, tl, hF1⟩ hQ)
        · cases t
          · exact hok.2
          · exact hok.1
        · cases t
          · exact hdk.2
          · exact hdk.1
      | block id x =>
        simp only [codeOk] at hok
        simp only [drawsOk] at hdk
        simp only [evalC] at h
        refine wp_block ?_
        split at h
        · rename_i i s1 h1
          refine ih fuel (by omega) x s a w _ _ _ hok hdk h1 hF fun a' w' hF' => ?_
          simp only [Ex.out, Exit.inBlock]
          by_cases hi : i = id
          · rw [if_pos hi] at h ⊢; cases h; exact hQ a' w' hF'
          · rw [if_neg hi] at h ⊢; cases h; exact hQ a' w' hF'
        · rename_i h1
          refine ih fuel (by omega) x s a w _ _ _ hok hdk h hF fun a' w' hF' => ?_
          cases e with
          | norm => exact hQ a' w' hF'
          | ret => exact hQ a' w' hF'
          | exit i => exact absurd h (h1 i s')
      | loop x =>
        simp only [codeOk] at hok
        simp only [drawsOk] at hdk
        refine wp_loop_ix (fun m a w => m ≤ fuel + 1 ∧ ∃ s, evalC P A call f bb m (.loop x) s = some (e, s') ∧ In n G0 w0 objs0 bb s a w) (m := fuel + 1) ⟨Nat.le_refl _, s, h, hF⟩ ?_
        rintro m a w ⟨hmm, s, h, hF⟩
        cases m with
        | zero => simp only [evalC] at h; cases h
        | succ m =>
          simp only [evalC] at h
          split at h
          · rename_i s1 h1
            exact ih m (by omega) x s a w _ _ _ hok hdk h1 hF fun a' w' hF' => ⟨m, by omega, by omega, s1, h, hF'⟩
          · rename_i h1
            refine ih m (by omega) x s a w _ _ _ hok hdk h hF fun a' w' hF' => ?_
            cases e with
            | norm => exact absurd h (h1 s')
            | ret => exact hQ a' w' hF'
            | exit id => exact hQ a' w' hF'
      | exit id => simp only [evalC] at h; cases h; exact wp_exit (hQ a w hF)
      | ret => simp only [evalC] at h; cases h; exact wp_ret (hQ a w hF)
      | _ => simp only [evalC] at h; cases h
end
/-! blocks that hold neither cells nor a map may turn -/
def storeObj : Obj → Bool
  | .cells .. => true
  | .map .. => true
  | _ => false
structure Turned (w w' : World) : Prop where
  size : w.heap.size ≤ w'.heap.size
  each : ∀ b, b < w.heap.size → w'.heap[b]? = w.heap[b]? ∨ ∃ o o', w.heap[b]? = some o ∧ w'.heap[b]? = some o' ∧ storeObj o = false ∧ storeObj o' = false
  os : w'.os = w.os
  tape : w'.tape = w.tape
  output : w'.output = w.output
theorem Turned.refl (w : World) : Turned w w := ⟨Nat.le_refl _, fun _ _ => .inl rfl, rfl, rfl, rfl⟩
theorem Turned.store {w w' : World} (h : Turned w w') {b : Nat} {o : Obj} (hb : w.heap[b]? = some o) (ho : storeObj o = true) : w'.heap[b]? = some o := by
  have hlt : b < w.heap.size := by
    rcases Nat.lt_or_ge b w.heap.size with q | q
    · exact q
    · rw [Array.getElem?_eq_none q] at hb; cases hb
  rcases h.each b hlt with q | ⟨o1, o2, q1, -, q3, -⟩
  · rw [q, hb]
  · rw [hb] at q1; cases q1; rw [ho] at q3; cases q3
theorem Turned.to0 {w w' : World} {G : Gh} (h : Turned w w') (hl : ∀ b x, G.st b x → b < w.heap.size) : WL0 G w w' := by
  refine ⟨h.size, fun b o hs => ?_, fun b arr el fz hb => ⟨arr, fz, h.store hb rfl, rfl⟩⟩
  rcases h.each b (hl b o hs) with q | ⟨o1, o2, q1, q2, q3, q4⟩
  · unfold World.cell?; simp only [q]
  · unfold World.cell?
    simp only [q1, q2]
    cases o1 <;> first | (cases q3; done) | (cases o2 <;> first | (cases q4; done) | rfl)
theorem Turned.put {w : World} {b : Nat} {o o' : Obj} (hb : w.heap[b]? = some o) (h1 : storeObj o = false) (h2 : storeObj o' = false) : Turned w (w.putObj b o') := by
  have hlt : b < w.heap.size := (Array.getElem?_eq_some_iff.1 hb).1
  refine ⟨by simp, fun k hk => ?_, rfl, rfl, rfl⟩
  by_cases e : k = b
  · subst e; exact .inr ⟨o, o', hb, World.putObj_heap_same hlt, h1, h2⟩
  · exact .inl (World.putObj_heap_other e)
theorem Turned.alloc (w : World) (o : Obj) : Turned w (w.alloc o) := ⟨by simp, fun k hk => .inl (Go.RowKit.Below.heap_alloc w o k hk), rfl, rfl, rfl⟩
theorem Store.turned {G : Gh} {tl : Nat → Nat → Option (Nat × Nat)} {E : Nat} {toks : List Nat} {objs : List AO} {w w' : World} (h : Store G tl E toks objs w) (hT : Turned w w') : Store G tl E toks objs w' := by
  have h0 := hT.to0 h.lt
  refine ⟨fun id cs ver hi => ?_, h.vers, h.news, fun t m ht => ?_, h.tnew, h.tnews, h.oo, h.tt, h.ot, fun b x hx => Nat.lt_of_lt_of_le (h.lt b x hx) hT.size, fun b hb => Nat.lt_of_lt_of_le (h.tbl b hb) hT.size, h.maps.keep0 (GLe.refl G) h0 (fun b arr cl hb => hT.store hb rfl) (fun _ _ _ _ => rfl) (fun _ _ _ _ _ _ _ _ _ h => h) (fun _ _ h => h)⟩
  · obtain ⟨b, o, arr, el, h1, h2, h3, h4⟩ := h.cellsR id cs ver hi
    exact ⟨b, o, arr, el, h1, ⟨hT.store h2.at_ rfl, h2.fit⟩, fun j hj => (h3 j hj).mono0 (GLe.refl G) h0, h4⟩
  · obtain ⟨b, o, arr, el, h1, h2, h3, h4⟩ := h.toksR t m ht
    exact ⟨b, o, arr, el, h1, ⟨hT.store h2.at_ rfl, h2.fit⟩, h3, h4⟩
theorem Fr.turned {n : Nat} {G0 G : Gh} {tl : Nat → Nat → Option (Nat × Nat)} {w0 w w' : World} {objs0 : List AO} {bb : Nat} {s : St} {a a' : Act} (hF : Fr n G0 w0 objs0 bb s a w G tl) (hT : Turned w w') (hb : ∀ b, b < w0.heap.size → w'.heap[b]? = w.heap[b]?)
    (ht : a'.tmps = a.tmps) (hd : Marks w0.heap.size w' a'.defers) : Fr n G0 w0 objs0 bb s a' w' G tl := by
  have h0 := hT.to0 hF.store.lt
  refine ⟨fun t => ?_, hd, by rw [ht]; exact hF.size, hF.store.turned hT, hF.gle, ⟨Nat.le_trans hF.wle.size hT.size, fun b o q => (h0.cell b o (hF.gle.st b o q)).trans (hF.wle.cell b o q), fun b arr el fz q => ?_, hT.os.trans hF.wle.os, hT.tape.trans hF.wle.tape, hT.output.trans hF.wle.output, fun b o q1 q2 => ?_⟩, fun b h1 h2 => (hb b h1).trans (hF.fr b h1 h2), hF.prov, hF.stn, hF.len, hF.low, hF.clean, hF.bl, hF.g0⟩
  · rw [ht]; exact ⟨(hF.env t).1.mono0 (GLe.refl G) h0, (hF.env t).2.mono0 (TLe.refl tl w) h0⟩
  · obtain ⟨arr', fz', q1, q2⟩ := hF.wle.kept b arr el fz q
    exact ⟨arr', fz', hT.store q1 rfl, q2⟩
  · rw [hb b (Array.getElem?_eq_some_iff.1 q1).1]; exact hF.wle.oth b o q1 q2
/-- The marks' blocks, shut. -/
def shut (bs : List Nat) (w : World) : World := bs.foldl (fun w b => w.putObj b (.deferred none)) w
theorem Fr.shut {n : Nat} {G0 G : Gh} {tl : Nat → Nat → Option (Nat × Nat)} {w0 : World} {objs0 : List AO} {bb : Nat} {s : St} : ∀ (bs : List Nat) {a : Act} {w : World}, Fr n G0 w0 objs0 bb s a w G tl → bs.Nodup → (∀ b ∈ bs, w0.heap.size ≤ b ∧ w.heap[b]? = some (.deferred (some []))) → Fr n G0 w0 objs0 bb s { a with defers := [] } (Ab.shut bs w) G tl
  | [], a, w, hF, _, _ => hF.turned (Turned.refl w) (fun _ _ => rfl) rfl (Marks.nil _ _)
  | b :: bs, a, w, hF, hnd, hbs => by
    obtain ⟨h1, h2⟩ := hbs b (by simp)
    have hnd := List.nodup_cons.1 hnd
    have hF2 : Fr n G0 w0 objs0 bb s { a with defers := [] } (w.putObj b (.deferred none)) G tl := hF.turned (Turned.put h2 rfl rfl) (fun k hk => World.putObj_heap_other (by omega)) rfl (Marks.nil _ _)
    exact Fr.shut bs (a := { a with defers := [] }) hF2 hnd.2 fun k hk => ⟨(hbs k (by simp [hk])).1, (World.putObj_heap_other (fun q => hnd.1 (by rw [← q]; exact hk))).trans (hbs k (by simp [hk])).2⟩
theorem leaves_marks {P : Program} {fn : Func} {tmps : Array Value} {R : Ending → World → Prop} : ∀ (bs : List Nat) {w : World}, bs.Nodup → (∀ b ∈ bs, w.heap[b]? = some (.deferred (some []))) → (∃ v, (results fn tmps).run P (shut bs w) = .ok v (shut bs w) ∧ R (.returned v) (shut bs w)) →
    LeavesInM Fence.wide 0 P fn tmps R (bs.map markOf) .returning w
  | [], w, _, _, h => h
  | b :: bs, w, hnd, hbs, h => by
    have hnd := List.nodup_cons.1 hnd
    exact ⟨by simp, .inl ⟨b, _, rfl, run_takeDeferred (hbs b (by simp)), leaves_marks bs hnd.2 (fun k hk => (World.putObj_heap_other (fun q => hnd.1 (by rw [← q]; exact hk))).trans (hbs k (by simp [hk]))) h⟩⟩
/-- A function's contract out of its body, marks and all. -/
theorem calls_of_marks {P : Program} {f : FuncId} {fn : Func} {c : Code} {args : Array Value} {w : World} {R : Ending → World → Prop} {e : Ex} (hf : P.funcs[f]? = some fn) (hb : fn.body = some c) (he : e = .norm ∨ e = .ret) {J : Act → World → Prop}
    (h : ∀ Q : Exit → Act → World → Prop, (∀ a' w', J a' w' → Q e.out a' w') → c.wp P Q { tmps := args ++ Array.replicate (fn.ntmps - args.size) Go.undef, defers := [] } w)
    (hJ : ∀ a' w', J a' w' → ∃ bs : List Nat, a'.defers = bs.map markOf ∧ bs.Nodup ∧ (∀ b ∈ bs, w'.heap[b]? = some (.deferred (some []))) ∧ ∃ v, (results fn a'.tmps).run P (shut bs w') = .ok v (shut bs w') ∧ R (.returned v) (shut bs w')) : Calls P f args w R := by
  refine callsIn_wide.1 (callsIn_of_wp_marks (n := 0) hf hb trivial (wpIn_wide.2 (h _ fun a' w' hj => ?_)))
  obtain ⟨bs, h1, h2, h3, h4⟩ := hJ a' w' hj
  have := leaves_marks (P := P) (R := R) bs h2 h3 h4
  rw [← h1] at this
  rcases he with rfl | rfl <;> exact this
end Go.Ab
