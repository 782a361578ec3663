import Derived.Test.YtdfcbophcfjakaaAb36
set_option linter.unusedSimpArgs false
set_option linter.unusedVariables false
set_option linter.unusedSectionVars false
/- Loops over functions: yield, the closure that calls it, and the statement. -/
namespace Go.Ab
/-- A loop over a function under way: where its record lies, and the record. -/
structure Lp where
  l : Nat
  fn : FuncId
  tmps : Array Value
  ps : Array Tmp
  assign : Code
  body : Code
  dfs : Nat
def Lp.ob (L : Lp) (st : LoopState) (j : Option Code) : Obj := .loop { state := st, pending := j, fn := L.fn, tmps := L.tmps, params := L.ps, assign := L.assign, body := L.body, defers := L.dfs }
def Lp.at (L : Lp) (j : Option Code) (w : World) : World := match j with | none => w | some c => w.putObj L.l (L.ob .done (some c))
def Lp.fin (L : Lp) (j : Option Code) : Obj := L.ob (if j.isNone then .ready else .done) j
/-- What a round does, seen from the function that yields. -/
abbrev Rd := List V → List AO → Ex → List AO → Nat → Prop
/-- The jump that a round leaves behind. -/
def jOf : Ex → Option Code
  | .norm => none
  | .ret => some .ret
  | .exit id => some (.exit id)
structure RoundOk (P : Program) (L : Lp) (base : Nat) (Y : Rd) (G1 : Gh) (objs1 : List AO) (W1 : World) : Prop where
  lay : W1.heap[L.l]? = some (L.ob .ready none)
  own : ¬ Owned G1 objs1 L.l
  low : ∀ xs objs e objs' low', Y xs objs e objs' low' → LowOk base objs objs.length objs' low'
  round : ∀ xs objs e objs' low', Y xs objs e objs' low' → ∀ (G : Gh) (w : World) (cargs : Array Value), GLe G1 G → WLe G1 W1 w → (∀ b, b < W1.heap.size → ¬ Owned G1 objs1 b → w.heap[b]? = W1.heap[b]?) →
    (∀ id b, OwnedAt G objs id b → W1.heap.size ≤ b ∨ OwnedAt G1 objs1 id b) → base ≤ objs.length → Clean base objs → Store G noTl w.heap.size [] objs w → AR G w xs cargs.toList →
    ∃ fn tmps assign body, (Instr.yield L.l cargs).run P w = .ok (.round L.l fn tmps assign body) w ∧ RoundIn (FR none) 0 P L.l fn tmps assign body w (fun en w' =>
      en = .returned (.bool (jOf e).isNone) ∧ w'.heap[L.l]? = some (L.fin (jOf e)) ∧ ∃ G', Back G objs w (.bool (jOf e).isNone) objs' (.bool (jOf e).isNone) (w'.putObj L.l (L.ob .ready none)) G')
theorem Turned.of {w w' : World} {l : Nat} {o o' : Obj} (hs : w'.heap.size = w.heap.size) (h : ∀ b, b ≠ l → w'.heap[b]? = w.heap[b]?) (h1 : w.heap[l]? = some o) (h2 : w'.heap[l]? = some o') (h3 : storeObj o = false) (h4 : storeObj o' = false)
    (q1 : w'.os = w.os) (q2 : w'.tape = w.tape) (q3 : w'.output = w.output) : Turned w w' := by
  refine ⟨by omega, fun b hb => ?_, q1, q2, q3⟩
  by_cases e : b = l
  · subst e; exact .inr ⟨o, o', h1, h2, h3, h4⟩
  · exact .inl (h b e)
theorem Fr.shift {n : Nat} {G0 G : Gh} {tl : Nat → Nat → Option (Nat × Nat)} {w0 w w0' w' : World} {objs0 : List AO} {bb : Nat} {s : St} {a : Act} (hF : Fr n G0 w0 objs0 bb s a w G tl) (hl0 : ∀ b x, G0.st b x → b < w0.heap.size) (h0 : Turned w0 w0') (h1 : Turned w w') (hsz : w0'.heap.size = w0.heap.size)
    (hb : ∀ b, b < w0.heap.size → w'.heap[b]? = w0'.heap[b]? ∨ (w'.heap[b]? = w.heap[b]? ∧ w0'.heap[b]? = w0.heap[b]?)) (hd : Marks w0.heap.size w' a.defers) : Fr n G0 w0' objs0 bb s a w' G tl := by
  have k1 := h1.to0 hF.store.lt
  have k0 := h0.to0 hl0
  refine ⟨fun t => ?_, by rw [hsz]; exact hd, hF.size, by rw [hsz]; exact hF.store.turned h1, hF.gle, ⟨by rw [hsz]; exact Nat.le_trans hF.wle.size h1.size, fun b o q => ?_, fun b arr el fz q => ?_, ?_, ?_, ?_, fun b o q1 q2 => ?_⟩, fun b q1 q2 => ?_, by rw [hsz]; exact hF.prov, by rw [hsz]; exact hF.stn, hF.len, hF.low, hF.clean, hF.bl, hF.g0⟩
  · rw [hsz]; exact ⟨(hF.env t).1.mono0 (GLe.refl G) k1, (hF.env t).2.mono0 (TLe.refl tl w) k1⟩
  · rw [k1.cell b o (hF.gle.st b o q), hF.wle.cell b o q, k0.cell b o q]
  · have hlt : b < w0.heap.size := by rw [← hsz]; exact (Array.getElem?_eq_some_iff.1 q).1
    rcases h0.each b hlt with e | ⟨o1, o2, -, e2, -, e4⟩
    · rw [e] at q
      obtain ⟨arr', fz', p1, p2⟩ := hF.wle.kept b arr el fz q
      exact ⟨arr', fz', h1.store p1 rfl, p2⟩
    · rw [q] at e2; cases e2; cases e4
  · rw [h1.os, hF.wle.os, h0.os]
  · rw [h1.tape, hF.wle.tape, h0.tape]
  · rw [h1.output, hF.wle.output, h0.output]
  · have hlt : b < w0.heap.size := by rw [← hsz]; exact (Array.getElem?_eq_some_iff.1 q1).1
    rcases hb b hlt with e | ⟨e1, e2⟩
    · rw [e, q1]
    · rw [e1]; rw [e2] at q1; exact hF.wle.oth b o q1 q2
  · rw [hsz] at q1
    rcases hb b q1 with e | ⟨e1, e2⟩
    · exact e
    · rw [e1, e2]; exact hF.fr b q1 q2
section
variable {P : Program} {A : Ann} {T : CallF} {f : FuncId} {base : Nat} {ops : Array Oper} {n : Nat} {G1 : Gh} {W1 : World} {objs1 : List AO} {s s1 s' : St} {a : Act} {w : World} {G : Gh} {tl : Nat → Nat → Option (Nat × Nat)} {L : Lp} {Y : Rd}
theorem LowOk.after {objs objs' : List AO} {low low' : Nat} (h : LowOk base objs objs.length objs' low') : LowOk base objs low objs' (if low' < low then low' else low) := by
  refine ⟨h.len, ?_, fun id h1 h2 => h.same id ?_ h2, h.clean⟩
  · split <;> omega
  · split at h1 <;> omega
/-- A frame behind a call that answers a bool. -/
theorem Fr.called {n : Nat} {G0 G G' : Gh} {tl : Nat → Nat → Option (Nat × Nat)} {w0 w w' : World} {objs0 objs' : List AO} {bb low' : Nat} {s : St} {a : Act} {b : Bool} {d : Option Nat} (hF : Fr n G0 w0 objs0 bb s a w G tl) (hB : Back G s.objs w (.bool b) objs' (.bool b) w' G') (hl : LowOk bb s.objs s.objs.length objs' low') (hd : ∀ i, d = some i → i < n) :
    ∃ G2 tl2, Fr n G0 w0 objs0 bb (s.put d (.bool b, s.toks, objs', if low' < s.low then low' else s.low)) (a.put d (.bool b)) w' G2 tl2 := by
  have hS := hF.store.back hB
  obtain ⟨G2, tl2, q1, q2, q3⟩ := bindRes_ok (ms := []) (toks := s.toks) (objs := objs') (v := V.bool b) (Ec := w0.heap.size) (E := w.heap.size) hF.wle.size hS hF.store.tbl hB.res rfl
  have hres : ResOk G tl w0.heap.size s.objs w (V.bool b) s.toks objs' (.bool b) w' G2 tl2 :=
    ⟨q1, q2, hB.gle.trans q3.gle, ⟨q3.old, q3.new⟩, hB.wle, q3.store, fun b hb hno => hB.fr b (Nat.lt_of_lt_of_le hb hF.wle.size) hno, fun id b hb => by
      rcases q3.prov id b hb with h | h
      · left; have := hF.wle.size; omega
      · exact (hB.prov id b h).imp (fun h => by have := hF.wle.size; omega) (fun h => h), fun b x hb hx => hB.stn b x (Nat.lt_of_lt_of_le hb hF.wle.size) (q3.stn b x (Nat.lt_of_lt_of_le hb hF.wle.size) hx)⟩
  exact ⟨G2, tl2, hF.step (d := d) (r := (.bool b, s.toks, objs', if low' < s.low then low' else s.low)) hd hres hl.after⟩
/-- One call of yield. -/
theorem yield_in {o : Oper} {y : Operand} {as : Array Operand} {ats : Array TypeId} {e : Ex} {objs' : List AO} {low' : Nat} {K : Act → World → Prop} {Q : Exit → Act → World → Prop} (hF : In n G1 W1 objs1 base s a w) (hl0 : ∀ b x, G1.st b x → b < W1.heap.size)
    (hR : RoundOk P L base Y G1 objs1 W1) (hop : o.op = .call ⟨.value y, as, ats⟩) (hy : opd s.env y = .fn (.yield L.l) [] []) (hY : Y (as.toList.map fun x => demote (opd s.env x)) s.objs e objs' low') (hd : ∀ i, o.dst = some i → i < n)
    (hK : ∀ a' w', In n G1 (L.at (jOf e) W1) objs1 base (s.put o.dst (.bool (jOf e).isNone, s.toks, objs', if low' < s.low then low' else s.low)) a' w' → K a' w') : o.wpIn (FR none) 0 P a w K Q := by
  obtain ⟨G, tl, hF⟩ := hF
  have hx := opd_vr hF.env y
  rw [hy] at hx
  obtain ⟨fs, bs, e1, e2, e3, -, -⟩ := hx.fn_inv
  have hfs : fs = #[] := Array.eq_empty_of_size_eq_zero (by simpa using e2)
  have hbs : bs = #[] := Array.eq_empty_of_size_eq_zero (by simpa using e3)
  subst hfs hbs
  have hll : L.l < W1.heap.size := (Array.getElem?_eq_some_iff.1 hR.lay).1
  have hAR : AR G w (as.toList.map fun x => demote (opd s.env x)) (as.map a.eval).toList := by
    rw [show as.toList.map (fun x => demote (opd s.env x)) = (as.toList.map (opd s.env)).map demote by simp]
    refine AR.demotes (by simp) (fun j hj => ?_)
    have g1 : (as.map a.eval).toList.getD j Go.undef = (as.map a.eval).getD j Go.undef := by simp [List.getD, Array.getD_eq_getD_getElem?]
    rw [g1]
    simp only [List.length_map, Array.length_toList] at hj
    simp only [List.getElem_map, Array.getElem_toList]
    rw [getD_eq (by simpa using hj)]
    simp only [Array.getElem_map]
    exact opd_vr hF.env _
  obtain ⟨fn, tmps, assign, body, hyl, hrd⟩ := hR.round _ _ _ _ _ hY G w _ hF.gle hF.wle hF.fr hF.prov (Nat.le_trans hF.bl hF.len) hF.clean hF.store.enter hAR
  have hex : (execOp a.eval o).run P w = .ok (.round L.l fn tmps assign body) w := by
    rw [← hyl]
    simp [execOp, hop, resolve, e1, Deferred.ofValue, invoke]
  refine ⟨fun _ _ => trivial, ?_⟩
  rw [Oper.semAt_eq _ _ _ (by rw [hop]; intro c hc; cases hc), hex, Oper.uponIn_round]
  refine ⟨fun q => (by cases q), RoundIn.mono hrd fun en w' he => ?_⟩
  obtain ⟨rfl, hw', G', hB⟩ := he
  refine hK _ _ ?_
  obtain ⟨G2, tl2, hF2⟩ := hF.called (d := o.dst) hB (hR.low _ _ _ _ _ hY) hd
  have hlw : L.l < w'.heap.size := (Array.getElem?_eq_some_iff.1 hw').1
  have hne : ∀ b, b ≠ L.l → w'.heap[b]? = (w'.putObj L.l (L.ob .ready none)).heap[b]? := fun b hb => (World.putObj_heap_other hb).symm
  have hT : Turned (w'.putObj L.l (L.ob .ready none)) w' := Turned.of (by simp) hne (World.putObj_heap_same hlw) hw' rfl (by unfold Lp.fin; rfl) rfl rfl rfl
  have hmk : Marks W1.heap.size w' (a.put o.dst (.bool (jOf e).isNone)).defers := by
    obtain ⟨bs, m1, m2, m3⟩ := hF2.dfr
    exact ⟨bs, m1, m2, fun b hb => ⟨(m3 b hb).1, by
      rw [hne b (fun q => by have := (m3 b hb).1; omega)]; exact (m3 b hb).2⟩⟩
  generalize hj : jOf e = j at *
  cases j with
  | none =>
    refine ⟨G2, tl2, hF2.turned hT (fun b hb => ?_) rfl hmk⟩
    by_cases e : b = L.l
    · subst e; rw [World.putObj_heap_same hlw, hw']; rfl
    · exact hne b e
  | some c =>
    have hT0 : Turned W1 (W1.putObj L.l (L.ob .done (some c))) := Turned.put hR.lay rfl rfl
    refine ⟨G2, tl2, hF2.shift (w0' := W1.putObj L.l (L.ob .done (some c))) hl0 hT0 hT (by simp) (fun b hb => ?_) hmk⟩
    by_cases e : b = L.l
    · subst e; left; rw [World.putObj_heap_same hll, hw']; rfl
    · right; exact ⟨hne b e, World.putObj_heap_other e⟩
end
end Go.Ab
