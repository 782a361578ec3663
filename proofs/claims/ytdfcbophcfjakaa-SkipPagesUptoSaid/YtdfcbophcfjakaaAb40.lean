import Derived.Test.YtdfcbophcfjakaaAb39
set_option linter.unusedSimpArgs false
set_option linter.unusedVariables false
set_option linter.unusedSectionVars false
/- The statement that ranges over a function, as a cut. -/
namespace Go.Ab
section
variable {P : Program} {A A' : Ann} {T : CallF} {f gf : FuncId} {base : Nat} {s : St} {ps : Array Tmp} {assign body cb : Code} {fn : Func} {caps : List V} {g : Operand} {objs' : List AO} {low' : Nat} {j : Ex}
theorem SemC.rangeFunc (hP : Fit P) (hc : CallOk P T) (hfn : P.funcs[gf]? = some fn) (hb : fn.body = some cb) (hres : fn.results = #[]) (hg : opd s.env g = .fn (.func gf) [] caps) (hda : drawsOk A f assign = true) (hdb : drawsOk A f body = true)
    (hclo : ∀ L : Lp, ∃ e s', (e = .norm ∨ e = .ret) ∧ SemL P A' T gf base L (roundY P A T f base s.env ps.toList assign body) cb ⟨entryEnv (.fn (.yield L.l) [] [] :: caps.map demote), [], s.objs, s.objs.length⟩ (e, s', j) ∧ s'.objs = objs' ∧ s'.low = low') :
    SemC P A T f base (.rangeFunc g ps assign body) s (j, ⟨s.env, s.toks, objs', if low' < s.low then low' else s.low⟩) := by
  have hm := hP.mixed
  obtain ⟨hok, hname⟩ := hP.code gf fn cb hfn hb
  have hcf : ∀ cargs w, (callFunc gf cargs).run P w = .ok (.enter gf cargs) w := by
    intro cargs w
    have h1 : (fn.name = "runtime.NumGoroutine") = False := by simpa using hname
    simp [callFunc, hfn, h1, hb]
  have hlow : LowOk base s.objs s.objs.length objs' low' := by
    obtain ⟨e, s', -, h, rfl, rfl⟩ := hclo ⟨0, 0, #[], #[], .skip, .skip, 0⟩
    exact h.low
  refine ⟨hlow.after, fun n G0 w0 objs0 a w Q hcd hF hQ => ?_⟩
  simp only [codeOk, Bool.and_eq_true] at hcd
  obtain ⟨⟨hps, hca⟩, hcb⟩ := hcd
  have hps : ∀ p ∈ ps.toList, p < n := fun p hp => by have := List.all_eq_true.1 hps p hp; simpa using this
  obtain ⟨G, tl, hF⟩ := hF
  have hx := opd_vr hF.env g
  rw [hg] at hx
  obtain ⟨fs, lb, e1, e2, e3, -, e5⟩ := hx.fn_inv
  have hfs : fs = #[] := Array.eq_empty_of_size_eq_zero (by simpa using e2)
  subst hfs
  refine (wpIn_wide (n := 0)).1 (wpIn_rangeFunc (F := FR none) fun fid _ => ?_)
  obtain ⟨L, hL⟩ : ∃ L : Lp, L = ⟨w.heap.size + 1, fid, a.tmps, ps, assign, body, w.heap.size⟩ := ⟨_, rfl⟩
  obtain ⟨W1, hW1⟩ : ∃ W1, (w.alloc (.deferred (some []))).alloc (L.ob .ready none) = W1 := ⟨_, rfl⟩
  have hLl : L.l = w.heap.size + 1 := by rw [hL]
  have hsz1 : W1.heap.size = w.heap.size + 2 := by rw [← hW1]; simp
  have hlay : W1.heap[L.l]? = some (L.ob .ready none) := by
    rw [← hW1, hLl]; have := World.alloc_heap_new (w.alloc (.deferred (some []))) (L.ob .ready none); rwa [World.size_alloc] at this
  have hD : W1.heap[w.heap.size]? = some (.deferred (some [])) := by
    rw [← hW1]; exact (Go.RowKit.Below.heap_alloc _ _ _ (by simp)).trans (World.alloc_heap_new w _)
  have hsame1 : ∀ b, b < w.heap.size → W1.heap[b]? = w.heap[b]? := fun b hb => by
    rw [← hW1]; exact (Go.RowKit.Below.heap_alloc _ _ _ (by simp; omega)).trans (Go.RowKit.Below.heap_alloc _ _ _ hb)
  have hT1 : Turned w W1 := ⟨by omega, fun b hb => .inl (hsame1 b hb), by rw [← hW1]; rfl, by rw [← hW1]; rfl, by rw [← hW1]; rfl⟩
  have k1 : WL0 G w W1 := hT1.to0 hF.store.lt
  have hS1 : Store G noTl W1.heap.size [] s.objs W1 := (hF.store.turned hT1).enter
  have hR : RoundOk P L base (roundY P A T f base s.env ps.toList assign body) G s.objs W1 := roundOk_of hm hc hF hT1 hlay (by rw [hL]) (by rw [hL]) (by rw [hL]) (by rw [hL]) hps hca hcb hda hdb
  obtain ⟨e, s', he, hsem, ho', hl'⟩ := hclo L
  have hargs : AR G W1 (.fn (.yield L.l) [] [] :: caps.map demote) (#[Value.func (.yield L.l) #[] #[]] ++ lb).toList := by
    rw [Array.toList_append]
    refine ⟨⟨.fn rfl rfl (fun j h => absurd h (by simp)) (fun j h => absurd h (by simp)), fun _ _ _ h => (by cases h), fun _ h => (by cases h)⟩, AR.demotes (by simpa using e3) fun j hj => ?_⟩
    have g1 : lb.toList.getD j Go.undef = lb.getD j Go.undef := by simp [List.getD, Array.getD_eq_getD_getElem?]
    show VR G W1 _ (lb.toList.getD j Go.undef)
    rw [g1]
    exact (e5 j hj).mono0 (GLe.refl G) k1
  have hent : In fn.ntmps G W1 s.objs base ⟨entryEnv (.fn (.yield L.l) [] [] :: caps.map demote), [], s.objs, s.objs.length⟩ { tmps := (#[Value.func (.yield L.l) #[] #[]] ++ lb) ++ Array.replicate (fn.ntmps - (#[Value.func (.yield L.l) #[] #[]] ++ lb).size) Go.undef, defers := [] } W1 := by
    obtain ⟨G', tl', hE⟩ := entry_in (A := ⟨fun _ _ => [], fun _ => true, fun _ => false, fun _ => false, fun _ => false⟩) (f := gf) (n := fn.ntmps) hS1 hargs
    exact ⟨G', tl', { hE with clean := hF.clean, bl := Nat.le_trans hF.bl hF.len }⟩
  have hLD : ∀ b, b ≠ L.l → (L.at (jOf j) W1).heap[b]? = W1.heap[b]? := fun b hb => by
    unfold Lp.at; split
    · rfl
    · exact World.putObj_heap_other hb
  have hLsz : (L.at (jOf j) W1).heap.size = W1.heap.size := by unfold Lp.at; split <;> simp
  have hLat : (L.at (jOf j) W1).heap[L.l]? = some (L.fin (jOf j)) := by
    unfold Lp.at
    cases jOf j with
    | none => exact hlay
    | some c => exact World.putObj_heap_same (by omega)
  have hTL : Turned W1 (L.at (jOf j) W1) := Turned.of hLsz hLD hlay hLat rfl rfl (by unfold Lp.at; split <;> rfl) (by unfold Lp.at; split <;> rfl) (by unfold Lp.at; split <;> rfl)
  refine ⟨L.l, [markOf w.heap.size], W1, { target := .fn (.func gf) lb, args := #[.func (.yield L.l) #[] #[]] }, W1, gf, #[.func (.yield L.l) #[] #[]] ++ lb, W1, ?_, ?_, fun _ _ => trivial, ?_, fun q => (by cases q), ?_⟩
  · rw [← hW1, hL]; exact run_enterLoop_outer _ _ _ _ _
  · simp only [resolve, e1]
    simp [go_sem]
  · simp [invoke, go_sem, hcf]
  refine calls_FR (calls_of_marks (J := fun a' w' => In fn.ntmps G (L.at (jOf j) W1) s.objs base s' a' w') hfn hb he (fun Q' hQ' => hsem.run _ G W1 s.objs _ W1 Q' hR hS1.lt hok hent hQ') ?_)
  intro a' w' hIn
  obtain ⟨G3, tl3, hF3⟩ := hIn
  obtain ⟨bs, b1, b2, b3⟩ := hF3.dfr
  have hF4 := hF3.shut bs b2 b3
  obtain ⟨w3, hw3⟩ : ∃ w3, w3 = Ab.shut bs w' := ⟨_, rfl⟩
  rw [← hw3] at hF4
  refine ⟨bs, b1, b2, fun b hb => (b3 b hb).2, .tuple #[], by unfold results; rw [hres]; simp [go_sem], ?_⟩
  rw [← hw3]
  -- behind the function
  have hl3 : w3.heap[L.l]? = some (L.fin (jOf j)) := by
    rw [hF4.fr L.l (by rw [hLsz]; omega) hR.own, hLat]
  have hl3lt : L.l < w3.heap.size := (Array.getElem?_eq_some_iff.1 hl3).1
  obtain ⟨w4, hw4⟩ : ∃ w4, w4 = w3.putObj L.l (L.ob .exhausted (jOf j)) := ⟨_, rfl⟩
  have hl4 : w4.heap[L.l]? = some (L.ob .exhausted (jOf j)) := by rw [hw4]; exact World.putObj_heap_same hl3lt
  have ho4 : ∀ b, b ≠ L.l → w4.heap[b]? = w3.heap[b]? := fun b hb => by rw [hw4]; exact World.putObj_heap_other hb
  have hs4 : w4.heap.size = w3.heap.size := by rw [hw4]; simp
  have hT4 : Turned w3 w4 := by rw [hw4]; exact Turned.put hl3 (by unfold Lp.fin; rfl) rfl
  have hend : (Instr.endLoop L.l).run P w3 = .ok (jOf j) w4 := by
    rw [hw4]
    refine run_endLoop hl3 ?_
    show (if (jOf j).isNone = true then LoopState.ready else LoopState.done) ≠ .busy
    split <;> simp
  -- what the whole statement has done
  have hB : Back G s.objs w (.bool true) s'.objs (.bool true) w4 G3 := by
    have z1 : WL0 G w w4 := ((k1.trans (GLe.refl G) (hTL.to0 (fun b x h => hS1.lt b x h))).trans (GLe.refl G) hF4.wle.to0).trans hF4.gle (hT4.to0 hF4.store.lt)
    refine ⟨hF4.gle, ⟨z1.size, z1.cell, z1.kept, ?_, ?_, ?_, fun b o q1 q2 => ?_⟩, (hF4.store.turned hT4).enter, fun b q1 q2 => ?_, fun id b q => ?_, fun b x q1 q2 => hF4.stn b x (by rw [hLsz]; omega) q2, ⟨fun _ => ⟨.bool, fun _ _ _ h => (by cases h), fun _ h => (by cases h)⟩, fun _ _ _ _ h => (by cases h)⟩⟩
    · rw [hT4.os, hF4.wle.os, hTL.os, hT1.os]
    · rw [hT4.tape, hF4.wle.tape, hTL.tape, hT1.tape]
    · rw [hT4.output, hF4.wle.output, hTL.output, hT1.output]
    · have hlt : b < w.heap.size := (Array.getElem?_eq_some_iff.1 q1).1
      rw [ho4 b (by omega)]
      exact hF4.wle.oth b o (by rw [hLD b (by omega), hsame1 b hlt]; exact q1) q2
    · rw [ho4 b (by omega), hF4.fr b (by rw [hLsz]; omega) q2, hLD b (by omega), hsame1 b q1]
    · exact (hF4.prov id b q).imp (fun h => by rw [hLsz] at h; omega) (fun h => h)
  have hlow2 : LowOk base s.objs s.objs.length s'.objs s'.low := hsem.low
  obtain ⟨G5, tl5, hF5⟩ := hF.called (d := none) hB hlow2 (fun i h => (by cases h))
  have hD4 : w4.heap[w.heap.size]? = some (.deferred (some [])) := by
    rw [ho4 _ (by omega)]
    exact hF4.wle.oth _ _ (by rw [hLD _ (by omega)]; exact hD) rfl
  have hF6 : In n G0 w0 objs0 base ⟨s.env, s.toks, objs', if low' < s.low then low' else s.low⟩ { a with defers := [markOf w.heap.size] ++ a.defers } w4 := by
    refine ⟨G5, tl5, ?_⟩
    have := hF5.turned (a' := { a with defers := [markOf w.heap.size] ++ a.defers }) (Turned.refl w4) (fun _ _ => rfl) rfl (by
      obtain ⟨ms, m1, m2, m3⟩ := hF.dfr
      refine ⟨w.heap.size :: ms, by rw [m1]; rfl, List.nodup_cons.2 ⟨fun hmem => ?_, m2⟩, fun b hb => ?_⟩
      · have := (Array.getElem?_eq_some_iff.1 (m3 _ hmem).2).1; omega
      · rcases List.mem_cons.1 hb with rfl | hb
        · exact ⟨hF.wle.size, hD4⟩
        · obtain ⟨p1, p2⟩ := m3 b hb
          have hlt : b < w.heap.size := (Array.getElem?_eq_some_iff.1 p2).1
          exact ⟨p1, hB.wle.oth b _ p2 rfl⟩)
    rw [ho', hl'] at this
    exact this
  refine ⟨jOf j, w4, hend, ?_⟩
  cases j with
  | norm => exact hQ _ _ hF6
  | ret => exact wpIn_ret (hQ _ _ hF6)
  | exit id => exact wpIn_exit (hQ _ _ hF6)
end
@[simp] theorem op_makeFunc {P : Program} {A : Ann} {T : CallF} {f : FuncId} {base : Nat} {ops : Array Oper} {s : St} {d : Option Nat} {ty : TypeId} {ps : String} {af : Array Edge} {g : Fn} {a b : List Operand} :
    opR P A T f base ops ⟨d, .makeFunc g a.toArray b.toArray, ty, ps, af, none⟩ s = pureR s (some (.fn g (a.map fun x => demote (opd s.env x)) (b.map fun x => demote (opd s.env x)))) := by
  have e : ∀ l : List Operand, (l.toArray).toList = l := fun l => by simp
  show pureR s (some (.fn g ((a.toArray).toList.map fun x => demote (opd s.env x)) ((b.toArray).toList.map fun x => demote (opd s.env x)))) = _
  rw [e, e]
theorem box_of {x : V} {objs : List AO} {low : Nat} (h : isDef x = true) : boxO x objs low = some (.ptr objs.length 0 0, objs ++ [.cells (cellsOf x) 0], low) := by unfold boxO; rw [if_pos h]
section
variable {P : Program} {A : Ann} {T : CallF} {f : FuncId} {base : Nat} {L : Lp} {Y : Rd} {c x y : Code} {s : St} {Q : Ex → St → Ex → Prop}
/-- A piece that does not yield, then the rest. -/
theorem ToL.front {M : St → Prop} (hm : P.follows .mixedOrders = true) (hc : CallOk P T) (hd : drawsOk A f x = true) (h : To P A T f base x s (fun e s1 => e = .norm ∧ M s1)) (k : ∀ s1, M s1 → ToL P A T f base L Y y s1 Q) : ToL P A T f base L Y (.seq x y) s Q := by
  refine ToL.seq (ToL.of (ToS.of hm hc hd (h.mono ?_)))
  rintro e s1 ⟨rfl, h1⟩
  exact k s1 h1
theorem ToL.outs (hm : P.follows .mixedOrders = true) (hc : CallOk P T) (hd : drawsOk A f x = true) (h : To P A T f base x s (fun e s1 => e ≠ .norm ∧ Q e s1 .norm)) : ToL P A T f base L Y (.seq x y) s Q := by
  refine ToL.seq (ToL.of (ToS.of hm hc hd (h.mono ?_)))
  rintro e s1 ⟨h1, h2⟩
  cases e with
  | norm => exact absurd rfl h1
  | ret => exact h2
  | exit id => exact h2
theorem ToL.last (hm : P.follows .mixedOrders = true) (hc : CallOk P T) (hd : drawsOk A f x = true) (h : To P A T f base x s (fun e s1 => Q e s1 .norm)) : ToL P A T f base L Y x s Q := ToL.of (ToS.of hm hc hd h)
theorem ToL.yields {M : St → Prop} {id : Nat} {l1 l2 : List Oper} {ops : Array Oper} {d : Option Nat} {y : Operand} {as : Array Operand} {ats : Array TypeId} {ty : TypeId} {pos : String} {af : Array Edge} (hc : CallOk P T) (hY : YLow base Y) (hl : ops.toList = l1 ++ ⟨d, .call ⟨.value y, as, ats⟩, ty, pos, af, none⟩ :: l2)
    (h1 : Ops P A T f base ops l1 s (fun _ s1 => M s1)) (h2 : ∀ s1, M s1 → opd s1.env y = .fn (.yield L.l) [] [] ∧ ∃ j objs' low', Y (as.toList.map fun x => demote (opd s1.env x)) s1.objs j objs' low' ∧
      Ops P A T f base ops l2 (s1.put d (.bool (jOf j).isNone, s1.toks, objs', if low' < s1.low then low' else s1.low)) (fun e s3 => Q e s3 j)) : ToL P A T f base L Y (.region id ops false) s Q := by
  obtain ⟨s1, k1, k2⟩ := h1
  exact ToL.yield hc hY hl ⟨s1, k1, h2 s1 k2⟩
theorem Ops.stop {M : St → Prop} {R : Ex → St → Prop} {ops : Array Oper} {l : List Oper} (h : Ops P A T f base ops l s (fun _ s1 => M s1)) (k : ∀ s1, M s1 → R .norm s1) : Ops P A T f base ops l s R := by
  obtain ⟨s1, k1, k2⟩ := h
  exact ⟨s1, k1, k s1 k2⟩
theorem CutOk.ofS {r : Ex × St} (h : SemC P A T f base c s r) (hl : ∀ x, c ≠ .loop x) : CutOk P A T f base c s r := ⟨hl, h.low, fun n G0 w0 objs0 a w Q h1 _ h3 h4 => h.run n G0 w0 objs0 a w Q h1 h3 h4⟩
theorem ToW.front {R : Ex → St → Prop} {M : St → Prop} (h : To P A T f base x s (fun e s1 => e = .norm ∧ M s1)) (k : ∀ s1, M s1 → ToW P A T f base y s1 R) : ToW P A T f base (.seq x y) s R := by
  refine ToW.seq (ToW.of (h.mono ?_))
  rintro e s1 ⟨rfl, h1⟩
  exact k s1 h1
theorem roundY_of {env : Nat → V} {ps : List Nat} {assign body : Code} {xs : List V} {objs objs' : List AO} {e : Ex} {low' : Nat} (hx : xs.length = ps.length)
    (h : To P A T f base assign ⟨parEnv (fun d => demote (env d)) ps xs, [], objs, objs.length⟩ (fun e1 s1 => e1 = .norm ∧ To P A T f base body s1 (fun e2 s2 => e2 = e ∧ s2.objs = objs' ∧ s2.low = low'))) : roundY P A T f base env ps assign body xs objs e objs' low' := by
  obtain ⟨e1, s1, h1, rfl, e2, s2, h2, rfl, h3, h4⟩ := h
  exact ⟨hx, s1, s2, h1, h2, h3, h4⟩
theorem roundY_of2 {M : St → Prop} {env : Nat → V} {ps : List Nat} {assign body : Code} {xs : List V} {objs objs' : List AO} {e : Ex} {low' : Nat} (hx : xs.length = ps.length)
    (h : To P A T f base assign ⟨parEnv (fun d => demote (env d)) ps xs, [], objs, objs.length⟩ (fun e1 s1 => e1 = .norm ∧ M s1)) (k : ∀ s1, M s1 → To P A T f base body s1 (fun e2 s2 => e2 = e ∧ s2.objs = objs' ∧ s2.low = low')) : roundY P A T f base env ps assign body xs objs e objs' low' :=
  roundY_of hx (h.mono fun e s1 q => ⟨q.1, k s1 q.2⟩)
theorem first_false (p : Nat → Bool) : ∀ n, ∃ K, K ≤ n ∧ (∀ i, i < K → p i = true) ∧ (K < n → p K = false)
  | 0 => ⟨0, Nat.le_refl _, fun i h => by omega, fun h => by omega⟩
  | n + 1 => by
    obtain ⟨K, h1, h2, h3⟩ := first_false p n
    rcases Nat.lt_or_ge K n with q | q
    · exact ⟨K, by omega, h2, fun _ => h3 q⟩
    · obtain rfl : K = n := by omega
      cases hp : p K with
      | false => exact ⟨K, by omega, h2, fun _ => hp⟩
      | true => exact ⟨K + 1, by omega, fun i hi => by
          rcases Nat.lt_or_ge i K with z | z
          · exact h2 i z
          · obtain rfl : i = K := by omega
            exact hp, fun h => by omega⟩
theorem ToS.front {R : Ex → St → Prop} {M : St → Prop} (hm : P.follows .mixedOrders = true) (hc : CallOk P T) (hd : drawsOk A f x = true) (h : To P A T f base x s (fun e s1 => e = .norm ∧ M s1)) (k : ∀ s1, M s1 → ToS P A T f base y s1 R) : ToS P A T f base (.seq x y) s R := by
  refine ToS.seq (ToS.of hm hc hd (h.mono ?_))
  rintro e s1 ⟨rfl, h1⟩
  exact k s1 h1
end
end Go.Ab
