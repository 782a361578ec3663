import Derived.Test.YtdfcbophcfjakaaAb37
set_option linter.unusedSimpArgs false
set_option linter.unusedVariables false
set_option linter.unusedSectionVars false
/- The statement that ranges over a function. -/
namespace Go.Ab
theorem WL0.trans {G G' : Gh} {a b c : World} (h : WL0 G a b) (g : GLe G G') (k : WL0 G' b c) : WL0 G a c :=
  ⟨Nat.le_trans h.size k.size, fun x o q => (k.cell x o (g.st x o q)).trans (h.cell x o q), fun x arr el fz q => by
    obtain ⟨a1, f1, e1, s1⟩ := h.kept x arr el fz q
    obtain ⟨a2, f2, e2, s2⟩ := k.kept x a1 el f1 e1
    exact ⟨a2, f2, e2, s2.trans s1⟩⟩
/-- The slots with a round's parameters in them. -/
def parEnv (e : Nat → V) : List Nat → List V → Nat → V
  | p :: ps, x :: xs => parEnv (upd e p x) ps xs
  | _, _ => e
theorem parEnv_ok {G : Gh} {w : World} {n : Nat} : ∀ (ps : List Nat) (xs : List V) (cs : List Value) (e : Nat → V) (t : Array Value), (∀ p ∈ ps, p < n) → n ≤ t.size → xs.length = ps.length → AR G w xs cs → (∀ d, VR G w (e d) (t.getD d Go.undef) ∧ TokT noTl w.heap.size w (e d) (t.getD d Go.undef)) →
    n ≤ ((ps.zip cs).foldl (fun t p => t.setIfInBounds p.1 p.2) t).size ∧ ∀ d, VR G w (parEnv e ps xs d) (((ps.zip cs).foldl (fun t p => t.setIfInBounds p.1 p.2) t).getD d Go.undef) ∧ TokT noTl w.heap.size w (parEnv e ps xs d) (((ps.zip cs).foldl (fun t p => t.setIfInBounds p.1 p.2) t).getD d Go.undef)
  | [], [], _, e, t, _, ht, _, _, he => ⟨by simpa using ht, by simpa [parEnv] using he⟩
  | p :: ps, x :: xs, c :: cs, e, t, hp, ht, hl, ha, he => by
    obtain ⟨⟨a1, a2, a3⟩, ha⟩ := ha
    have hpn := hp p (by simp)
    refine parEnv_ok ps xs cs (upd e p x) (t.setIfInBounds p c) (fun q hq => hp q (by simp [hq])) (by simpa using ht) (by simpa using hl) ha fun d => ?_
    simp only [upd]
    by_cases q : d = p
    · subst q
      have e1 : (t.setIfInBounds d c).getD d Go.undef = c := by simp [Array.getD, show d < t.size by omega]
      rw [if_pos rfl, e1]
      exact ⟨a1, TokT.of a2 a3⟩
    · have e1 : (t.setIfInBounds p c).getD d Go.undef = t.getD d Go.undef := by
        rw [Array.getD_eq_getD_getElem?, Array.getD_eq_getD_getElem?, Array.getElem?_setIfInBounds_ne (fun z => q z.symm)]
      rw [if_neg q, e1]
      exact he d
  | _ :: _, _ :: _, [], _, _, _, _, _, ha, _ => ha.elim
  | [], _ :: _, _, _, _, _, _, hl, _, _ => by simp at hl
  | _ :: _, [], _, _, _, _, _, hl, _, _ => by simp at hl
/-- What a loop's body does in one round. -/
def roundY (P : Program) (A : Ann) (T : CallF) (f : FuncId) (base : Nat) (env : Nat → V) (ps : List Nat) (assign body : Code) : Rd := fun xs objs e objs' low' =>
  xs.length = ps.length ∧ ∃ s1 s2, EvC P A T f base assign ⟨parEnv (fun d => demote (env d)) ps xs, [], objs, objs.length⟩ (.norm, s1) ∧ EvC P A T f base body s1 (e, s2) ∧ s2.objs = objs' ∧ s2.low = low'
section
variable {P : Program} {A : Ann} {T : CallF} {f : FuncId} {base : Nat} {n : Nat} {G0 G : Gh} {w0 w : World} {objs0 : List AO} {s : St} {a : Act} {tl : Nat → Nat → Option (Nat × Nat)} {L : Lp} {ps : Array Tmp} {assign body : Code}
theorem EvC.low (hc : CallOk P T) {c : Code} {s : St} {r : Ex × St} (h : EvC P A T f base c s r) : LowOk base s.objs s.low r.2.objs r.2.low := by
  obtain ⟨k, h⟩ := h
  exact evalC_low hc k c s r.2 r.1 h
theorem roundOk_of (hm : P.follows .mixedOrders = true) (hc : CallOk P T) (hF : Fr n G0 w0 objs0 base s a w G tl) {W1 : World} (hT : Turned w W1) (hlay : W1.heap[L.l]? = some (L.ob .ready none)) (hLt : L.tmps = a.tmps) (hLp : L.ps = ps) (hLa : L.assign = assign) (hLb : L.body = body)
    (hps : ∀ p ∈ ps.toList, p < n) (hca : codeOk n assign = true) (hcb : codeOk n body = true) (hda : drawsOk A f assign = true) (hdb : drawsOk A f body = true) : RoundOk P L base (roundY P A T f base s.env ps.toList assign body) G s.objs W1 := by
  have hS1 : Store G noTl W1.heap.size [] s.objs W1 := (hF.store.turned hT).enter
  have hown : ¬ Owned G s.objs L.l := by
    rintro ⟨id, ver, o, q1, q2⟩
    rcases q1 with ⟨cs, q1⟩ | ⟨rfl, es, q1⟩
    · obtain ⟨b, o', arr, el, g1, g2, -⟩ := hS1.cellsR id cs ver q1
      rw [q2] at g1; cases g1
      rw [g2.at_] at hlay; cases hlay
    · obtain ⟨b, arr, cl, g1, g2, -⟩ := hS1.maps.row id es q1
      rw [q2] at g1; cases g1
      rw [g2] at hlay; cases hlay
  have hll : L.l < W1.heap.size := (Array.getElem?_eq_some_iff.1 hlay).1
  refine ⟨hlay, hown, ?_, ?_⟩
  · rintro xs objs e objs' low' ⟨-, s1, s2, h1, h2, rfl, rfl⟩
    exact (h1.low hc).trans (h2.low hc)
  rintro xs objs e objs' low' ⟨hx, s1, s2, h1, h2, rfl, rfl⟩ Gy wy cargs hgle hwle hfr hprov hbl hcl hSt hAR
  have hl1 : wy.heap[L.l]? = some (L.ob .ready none) := by rw [hfr L.l hll hown]; exact hlay
  have hownY : ¬ Owned Gy objs L.l := by
    rintro ⟨id, q⟩
    rcases hprov id L.l q with z | z
    · omega
    · exact hown z.owned
  have hcl2 : cargs.size = L.ps.size := by
    have : ∀ {xs : List V} {cs : List Value}, AR Gy wy xs cs → cs.length = xs.length := by
      intro xs
      induction xs with
      | nil => intro cs h; cases cs with
        | nil => rfl
        | cons _ _ => exact h.elim
      | cons x xs ih => intro cs h; cases cs with
        | nil => exact h.elim
        | cons c cs => simp [ih h.2]
    have := this hAR
    rw [hLp]; simp at this hx; omega
  have hyl := run_yield (P := P) (args := cargs) hl1 (by rw [hcl2])
  refine ⟨L.fn, _, L.assign, L.body, hyl, roundIn_of_wpIn trivial ?_⟩
  -- the slots
  have h0 : WL0 G w wy := (hT.to0 hF.store.lt).trans (GLe.refl G) hwle.to0
  have henv := parEnv_ok (G := Gy) (w := wy) (n := n) ps.toList xs cargs.toList (fun d => demote (s.env d)) a.tmps hps hF.size hx hAR (fun d => ⟨((hF.env d).1.demote).mono0 hgle h0, TokT.demote⟩)
  have hfold : ((L.ps.zip cargs).foldl (fun tmps x => match x with | (t, a) => tmps.setIfInBounds t a) L.tmps) = (ps.toList.zip cargs.toList).foldl (fun t p => t.setIfInBounds p.1 p.2) a.tmps := by
    rw [hLt, hLp, ← Array.foldl_toList, Array.toList_zip]
  have hIn : Fr n Gy wy objs base ⟨parEnv (fun d => demote (s.env d)) ps.toList xs, [], objs, objs.length⟩ { tmps := (L.ps.zip cargs).foldl (fun tmps x => match x with | (t, a) => tmps.setIfInBounds t a) L.tmps, defers := [] } wy Gy noTl := by
    refine ⟨fun t => ?_, Marks.nil _ _, ?_, hSt, GLe.refl Gy, WLe.refl Gy wy, fun _ _ _ => rfl, fun _ _ h => .inr h, fun _ _ _ h => h, Nat.le_refl _, fun _ _ _ => rfl, hcl, hbl, fun id ver h => hSt.news id h ver⟩
    · show VR Gy wy _ _ ∧ TokT noTl wy.heap.size wy _ _
      simp only [hfold]
      exact henv.2 t
    · simp only [hfold]; exact henv.1
  obtain ⟨k1, h1⟩ := h1
  obtain ⟨k2, h2⟩ := h2
  have hlts : ∀ b x, Gy.st b x → b < wy.heap.size := hSt.lt
  have hly : L.l < wy.heap.size := (Array.getElem?_eq_some_iff.1 hl1).1
  have hTy : Turned wy (wy.putObj L.l (L.ob .busy none)) := Turned.put hl1 rfl rfl
  refine evalC_in (r := some L.l) (m := 0) hm hc k1 L.assign _ _ _ .norm s1 _ (by rw [hLa]; exact hca) (by rw [hLa]; exact hda) (by rw [hLa]; exact h1) ⟨_, _, hIn⟩ fun a1 w1 hF1 => ?_
  obtain ⟨G1, tl1, hF1⟩ := hF1
  have hl2 : w1.heap[L.l]? = some (L.ob .ready none) := by rw [hF1.fr L.l hly hownY]; exact hl1
  refine ⟨_, run_beginRound hl2 rfl, ?_⟩
  have hT1 : Turned w1 (w1.putObj L.l (L.ob .busy none)) := Turned.put hl2 rfl rfl
  have hl2lt : L.l < w1.heap.size := (Array.getElem?_eq_some_iff.1 hl2).1
  have hFb : Fr n Gy (wy.putObj L.l (L.ob .busy none)) objs base s1 a1 (w1.putObj L.l (L.ob .busy none)) G1 tl1 := hF1.shift hlts hTy hT1 (by simp) (fun b hb => by
    by_cases e : b = L.l
    · subst e; left; rw [World.putObj_heap_same hl2lt, World.putObj_heap_same hly]
    · right; exact ⟨World.putObj_heap_other e, World.putObj_heap_other e⟩) (by
      obtain ⟨bs, m1, m2, m3⟩ := hF1.dfr
      exact ⟨bs, m1, m2, fun b hb => ⟨(m3 b hb).1, by rw [World.putObj_heap_other (fun q => by have := (m3 b hb).1; omega)]; exact (m3 b hb).2⟩⟩)
  refine evalC_in (r := some L.l) (m := 0) hm hc k2 L.body _ _ _ e s2 _ (by rw [hLb]; exact hcb) (by rw [hLb]; exact hdb) (by rw [hLb]; exact h2) ⟨_, _, hFb⟩ fun a3 w3 hF3 => ?_
  obtain ⟨G3, tl3, hF3⟩ := hF3
  have hl3 : w3.heap[L.l]? = some (L.ob .busy none) := by
    rw [hF3.fr L.l (by simpa using hly) hownY, World.putObj_heap_same hly]
  have hl3lt : L.l < w3.heap.size := (Array.getElem?_eq_some_iff.1 hl3).1
  have fin : ∀ j : Option Code, (Instr.endRound L.l j).run P w3 = .ok (.bool j.isNone) (w3.putObj L.l (L.fin j)) ∧ (w3.putObj L.l (L.fin j)).heap[L.l]? = some (L.fin j) ∧
      ∃ G', Back Gy objs wy (.bool j.isNone) s2.objs (.bool j.isNone) ((w3.putObj L.l (L.fin j)).putObj L.l (L.ob .ready none)) G' := by
    intro j
    refine ⟨run_endRound j hl3, World.putObj_heap_same hl3lt, G3, ?_⟩
    have hw4 : ((w3.putObj L.l (L.fin j)).putObj L.l (L.ob .ready none)).heap[L.l]? = some (L.ob .ready none) := World.putObj_heap_same (by simpa using hl3lt)
    have ho4 : ∀ b, b ≠ L.l → ((w3.putObj L.l (L.fin j)).putObj L.l (L.ob .ready none)).heap[b]? = w3.heap[b]? := fun b hb => (World.putObj_heap_other hb).trans (World.putObj_heap_other hb)
    have hT3 : Turned w3 ((w3.putObj L.l (L.fin j)).putObj L.l (L.ob .ready none)) := Turned.of (by simp) ho4 hl3 hw4 rfl rfl rfl rfl rfl
    have hT4 : Turned (wy.putObj L.l (L.ob .busy none)) wy := Turned.of (by simp) (fun b hb => (World.putObj_heap_other hb).symm) (World.putObj_heap_same hly) hl1 rfl rfl rfl rfl rfl
    have hF4 := hF3.shift (w0' := wy) (fun b x h => by simpa using hlts b x h) hT4 hT3 (by simp) (fun b hb => by
      by_cases e : b = L.l
      · subst e; left; rw [hw4, hl1]
      · right; exact ⟨ho4 b e, (World.putObj_heap_other e).symm⟩) (by
        obtain ⟨bs, m1, m2, m3⟩ := hF3.dfr
        exact ⟨bs, m1, m2, fun b hb => ⟨(m3 b hb).1, by
          rw [ho4 b (fun q => by have := (m3 b hb).1; simp at this; omega)]; exact (m3 b hb).2⟩⟩)
    exact ⟨hF4.gle, hF4.wle, hF4.store.enter, hF4.fr, hF4.prov, hF4.stn, ⟨fun _ => ⟨.bool, fun _ _ _ h => (by cases h), fun _ h => (by cases h)⟩, fun _ _ _ _ h => (by cases h)⟩⟩
  cases e with
  | norm => obtain ⟨f1, f2, f3⟩ := fin none; exact ⟨_, _, f1, rfl, f2, f3⟩
  | ret => obtain ⟨f1, f2, f3⟩ := fin (some .ret); exact ⟨_, _, f1, rfl, f2, f3⟩
  | exit id => obtain ⟨f1, f2, f3⟩ := fin (some (.exit id)); exact ⟨_, _, f1, rfl, f2, f3⟩
end
end Go.Ab
