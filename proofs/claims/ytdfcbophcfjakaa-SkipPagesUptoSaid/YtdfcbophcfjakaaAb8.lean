import Derived.Test.YtdfcbophcfjakaaAb7
set_option linter.unusedSimpArgs false
set_option linter.unusedVariables false
set_option linter.unusedSectionVars false
/- Operations that depend on their operands alone, in a store. -/
namespace Go.Ab
section
variable {P : Program} {G : Gh} {tl : Nat → Nat → Option (Nat × Nat)} {E : Nat} {toks : List Nat} {objs : List AO} {w : World} {env : Nat → V} {a : Act}
/-- An operation that hands a value on. -/
def Does (P : Program) (G : Gh) (tl : Nat → Nat → Option (Nat × Nat)) (E : Nat) (objs : List AO) (w : World) (a : Act) (o : Oper) (v : V) (toks' : List Nat) (objs' : List AO) : Prop :=
  ∃ c w' G' tl', ((execOp a.eval o).run P w = .ok (.value c) w' ∨ (execOp a.eval o).run P w = .ok .skip w' ∧ c = Go.undef) ∧ ResOk G tl E objs w v toks' objs' c w' G' tl'
theorem does_same {o : Oper} {v : V} (hs : Store G tl E toks objs w) {c : Value} (h : (execOp a.eval o).run P w = .ok (.value c) w) (hv : VR G w v c) (ht : TokT tl E w v c) : Does P G tl E objs w a o v toks objs :=
  ⟨c, w, G, tl, .inl h, ResOk.same hs hv ht⟩
theorem does_of_same {o : Oper} {v : V} (hs : Store G tl E toks objs w) {s : Sem Value} (h : Same P G tl E w s v) (he : (execOp a.eval o).run P w = (s.run P w).andThen fun c w' => .ok (.value c) w') : Does P G tl E objs w a o v toks objs := by
  obtain ⟨c, h1, h2, h3⟩ := h
  exact does_same hs (by rw [he, h1]; rfl) h2 h3
theorem flatTok {v : V} {c : Value} (h1 : ∀ k cs len, v ≠ .lst k cs len) (h2 : ∀ vs, v ≠ .tup vs) : TokT tl E w v c := TokT.of (fun k cs len e => absurd e (h1 _ _ _)) h2
theorem zeros_length (z : List V) (n : Nat) : (zeros z n).length = n * z.length := by
  induction n with
  | zero => simp [zeros]
  | succ n ih =>
    have e : zeros z (n + 1) = z ++ zeros z n := by unfold zeros; rw [List.replicate_succ, List.flatten_cons]
    rw [e, List.length_append, ih, Nat.succ_mul]; omega
theorem u8s_get : ∀ {cs : List V} {xs : List Int}, u8s cs = some xs → cs.length = xs.length ∧ ∀ j (h : j < cs.length) (h' : j < xs.length), cs[j]'h = .int .u8 (xs[j]'h')
  | [], xs, h => by simp [u8s] at h; subst h; exact ⟨rfl, fun j h => absurd h (by simp)⟩
  | v :: vs, xs, h => by
    unfold u8s at h
    split at h
    · rename_i h1; cases h1
    · rename_i c us h1
      cases h1
      cases hu : u8s vs with
      | none => rw [hu] at h; cases h
      | some ys =>
        rw [hu] at h; cases h
        obtain ⟨g1, g2⟩ := u8s_get hu
        refine ⟨by simp [g1], fun j hj hj' => ?_⟩
        cases j with
        | zero => rfl
        | succ j => exact g2 j (by simpa using hj) (by simpa using hj')
    · cases h
theorem list_place {t e : TypeId} {n sz : Nat} {parts : List (Nat × V)} {cs : List V} {z : List V} (hu : P.underlying t = some (.slice e)) (hs : sizeOf? P e = some sz) (hz : zeroV P e = some z) (hn : n * sz ≤ 16777216) (hp : 0 < sz)
    (hf : fillV (fun i => some (i * sz, sz)) (zeros z n) parts = some cs) {cparts : Array (Nat × Value)} (hm : cparts.toList.map (·.1) = parts.map (·.1))
    (hv : ∀ j (h : j < parts.length) (h' : j < cparts.toList.length), VR G w (parts[j]'h).2 (cparts.toList[j]'h').2) :
    ∃ arr, (Instr.buildSlice t n cparts).run P w = .ok (.slice (some ⟨w.heap.size, 0, none⟩) n n) { w with heap := w.heap.push (.cells arr e) } ∧ arr.size = cs.length ∧ ∀ j (h : j < cs.length), VR G w (cs[j]'h) (arr.getD j Go.undef) := by
  obtain ⟨v, i, z1, z2, z3, z4, z5, z6⟩ := zero_run (w := w) hz
  have hsz : z.length = sz := by rw [z5]; unfold sizeOf? at hs; rw [z1] at hs; exact Option.some.inj hs
  have hlen : (zeros z n).length = n * sz := by
    rw [zeros_length, hsz]
  have hget : ∀ (n j : Nat) (h : j < (zeros z n).length), (zeros z n)[j]? = z[j % sz]? := by
    intro n
    induction n with
    | zero => intro j h; simp [zeros] at h
    | succ n ih =>
      intro j h
      have e : zeros z (n + 1) = z ++ zeros z n := by unfold zeros; rw [List.replicate_succ, List.flatten_cons]
      rw [e]
      rcases Nat.lt_or_ge j sz with h1 | h1
      · rw [List.getElem?_append_left (by omega), Nat.mod_eq_of_lt h1]
      · rw [List.getElem?_append_right (by omega), hsz]
        have h2 : j - sz < (zeros z n).length := by rw [e, List.length_append] at h; omega
        rw [ih _ h2, Nat.mod_eq_sub_mod h1]
  have hzs : ∀ j (h : j < (zeros z n).length), VR G w ((zeros z n)[j]'h) (((Array.range (n * sz)).map (v.cells[· % v.cells.size]!)).getD j Go.undef) := by
    intro j h
    have hj : j < n * sz := by omega
    have hm' : j % sz < z.length := by rw [hsz]; exact Nat.mod_lt _ hp
    have e1 : ((Array.range (n * sz)).map (v.cells[· % v.cells.size]!)).getD j Go.undef = v.cells.getD (j % sz) Go.undef := by
      rw [getD_eq (by simp; omega)]
      simp only [Array.getElem_map, Array.getElem_range]
      rw [z4, hsz, getD_eq (by omega)]
      exact getElem!_pos _ _ (by omega)
    have e2 := hget n j h
    rw [List.getElem?_eq_getElem h, List.getElem?_eq_getElem hm'] at e2
    rw [e1, Option.some.inj e2]
    exact z6 G _ hm'
  obtain ⟨bs, b1, b2, b3⟩ := fill_run parts cparts.toList (zeros z n) ((Array.range (n * sz)).map (v.cells[· % v.cells.size]!)) cs hf (by simp [hlen]) hzs hm hv
  refine ⟨bs, ?_, b2, b3⟩
  unfold Instr.buildSlice
  simp only [Sem.run_bind, run_underlying hu, Result.andThen_ok, size_run hs, Sem.run_ite]
  rw [if_neg (by omega)]
  by_cases h0 : n * sz = 0
  · have e : n = 0 := by rcases Nat.mul_eq_zero.1 h0 with h | h <;> omega
    subst e
    simp only [Nat.zero_mul, if_true, Sem.run_pure, Result.andThen_ok]
    have e2 : (Array.range 0).map ((#[] : Array Value)[· % (#[] : Array Value).size]!) = (Array.range (0 * sz)).map (v.cells[· % v.cells.size]!) := by simp
    simp only [e2, b1]
    rfl
  · simp only [h0, if_false, Sem.run_bind, z3, Result.andThen_ok, Sem.run_pure, b1]
    rfl
theorem parts_vr (he : EnvR G tl E w env a) (parts : Array (Nat × Operand)) :
    (parts.map fun ((i, x) : Nat × Operand) => (i, a.eval x)).toList.map (·.1) = (parts.toList.map fun p => (p.1, demote (opd env p.2))).map (·.1) ∧
    ∀ j (h : j < (parts.toList.map fun p => (p.1, demote (opd env p.2))).length) (h' : j < (parts.map fun ((i, x) : Nat × Operand) => (i, a.eval x)).toList.length),
      VR G w ((parts.toList.map fun p => (p.1, demote (opd env p.2)))[j]'h).2 ((parts.map fun ((i, x) : Nat × Operand) => (i, a.eval x)).toList[j]'h').2 := by
  refine ⟨by simp, fun j h h' => ?_⟩
  simp only [List.getElem_map, Array.toList_map]
  exact (opd_vr he _).demote
theorem sizes_run {fs : List Field} (h : fs.all (fun f => (sizeOf? P f.type).isSome) = true) :
    (fs.mapM (fun f => do pure (f.offset, ← Go.sizeOf f.type)) : Sem (List (Nat × Nat))).run P w = .ok (fs.map fun f => (f.offset, (sizeOf? P f.type).getD 0)) w := by
  induction fs with
  | nil => rfl
  | cons f fs ih =>
    rw [List.all_cons, Bool.and_eq_true] at h
    obtain ⟨n, hn⟩ := Option.isSome_iff_exists.mp h.1
    rw [List.mapM_cons]
    simp only [Sem.run_bind, size_run hn, Result.andThen_ok, Sem.run_pure, ih h.2, List.map_cons, hn, Option.getD_some]
theorem build_run {t : TypeId} {cparts : Array (Nat × Value)} {v : Value} {bs : Array Value} (hsd : sized P t = true) (hz : (Go.zeroValue t).run P w = .ok v w) (hf : Instr.fill (placeOf P t) v.cells cparts.toList = some bs) :
    (Instr.build t cparts).run P w = .ok (.agg bs) w := by
  unfold sized at hsd
  unfold Instr.build
  simp only [Sem.run_bind, hz, Result.andThen_ok, Sem.run_pure]
  split at hsd
  · rename_i fs hu
    have hp : (fs.mapM (fun f => do pure (f.offset, ← Go.sizeOf f.type)) : Sem (Array (Nat × Nat))).run P w = .ok (fs.toList.map fun f => (f.offset, (sizeOf? P f.type).getD 0)).toArray w := by
      rw [Array.mapM_eq_mapM_toList, Sem.run_map, sizes_run hsd]; rfl
    simp only [run_underlying hu, Result.andThen_ok, Sem.run_bind, hp]
    have hpl : (fun i => (fs.toList.map fun f => (f.offset, (sizeOf? P f.type).getD 0)).toArray[i]?) = placeOf P t := by
      funext i
      unfold placeOf
      rw [hu]
      simp only [List.getElem?_toArray, List.getElem?_map, Array.getElem?_toList]
      cases hi : fs[i]? with
      | none => rfl
      | some f =>
        rw [List.all_eq_true] at hsd
        obtain ⟨n, hn⟩ := Option.isSome_iff_exists.mp (hsd f (Array.mem_toList_iff.2 (Array.mem_of_getElem? hi)))
        simp [hn]
    rw [hpl, hf]; rfl
  · rename_i k e hu
    obtain ⟨n, hn⟩ := Option.isSome_iff_exists.mp hsd
    simp only [run_underlying hu, Result.andThen_ok, Sem.run_bind, size_run hn]
    have hpl : (fun i => some (i * n, n)) = placeOf P t := by
      funext i
      unfold placeOf
      rw [hu]; simp [hn]
    rw [hpl, hf]; rfl
  · cases hsd
/-- A mark behind a row that nobody writes to. -/
theorem freeze_res {b n : Nat} (hs : Store G tl E toks objs w) (hb1 : E ≤ b) (hb2 : ¬ TB tl b) (hb3 : ∃ x, G.st b x) :
    ∃ w', w' = w.freeze ⟨b, n, none⟩ 1 ∧ WLe G w w' ∧ Store G tl E toks objs w' ∧ (∀ b, b < E → ¬ Owned G objs b → w'.heap[b]? = w.heap[b]?) ∧ w.heap.size ≤ w'.heap.size := by
  refine ⟨_, rfl, ?_⟩
  have hh : ∀ k, (w.freeze ⟨b, n, none⟩ 1).heap[k]? = if k = b then (w.heap[k]?).map (fun | .cells c elem (lo, hi) => .cells c elem (if lo == hi then (n, n + 1) else (min lo n, max hi (n + 1))) | o => o) else w.heap[k]? := by
    intro k
    unfold World.freeze
    rw [if_neg (by decide)]
    simp only [Array.getElem?_modify]
    by_cases hk : k = b
    · rw [if_pos hk.symm, if_pos hk]; rfl
    · rw [if_neg (fun h => hk h.symm), if_neg hk]
  have hsz : (w.freeze ⟨b, n, none⟩ 1).heap.size = w.heap.size := by
    unfold World.freeze; rw [if_neg (by decide)]; simp
  have hcell : ∀ k x, (w.freeze ⟨b, n, none⟩ 1).cell? ⟨k, x, none⟩ = w.cell? ⟨k, x, none⟩ := by
    intro k x
    unfold World.cell?
    simp only [hh]
    by_cases hk : k = b
    · rw [if_pos hk]
      cases hq : w.heap[k]? with
      | none => rfl
      | some o => cases o <;> rfl
    · rw [if_neg hk]
  have hw : WLe G w (w.freeze ⟨b, n, none⟩ 1) := by
    refine ⟨by omega, fun k x _ => hcell k x, fun k arr el fz hk => ?_, ?_, ?_, ?_, fun k o hk ho => ?_⟩
    · rw [hh k]
      by_cases hkb : k = b
      · rw [if_pos hkb, hk]
        obtain ⟨lo, hi⟩ := fz
        exact ⟨arr, _, rfl, rfl⟩
      · rw [if_neg hkb]; exact ⟨arr, fz, hk, rfl⟩
    case refine_5 =>
      rw [hh k]
      by_cases hkb : k = b
      · rw [if_pos hkb, hk]
        cases o <;> first | rfl | cases ho
      · rw [if_neg hkb]; exact hk
    all_goals unfold World.freeze; rw [if_neg (by decide)]
  refine ⟨hw, ?_, fun k hk _ => ?_, by omega⟩
  · refine ⟨?_, hs.vers, hs.news, ?_, hs.tnew, hs.tnews, hs.oo, hs.tt, hs.ot, fun b x h => by rw [hsz]; exact hs.lt b x h, fun b h => by rw [hsz]; exact hs.tbl b h, hs.maps.keep (GLe.refl G) hw (fun k a c hk => by rw [hh]; split <;> simp [hk]) (fun _ _ _ _ => rfl) (fun _ _ _ _ _ _ _ _ _ h => h) (fun _ _ h => h)⟩
    · intro id cs ver hi
      obtain ⟨b', o, arr, el, h1, ⟨h2, h3⟩, h4, h5⟩ := hs.cellsR id cs ver hi
      have hne : b' ≠ b := by rintro rfl; obtain ⟨x, hx⟩ := hb3; exact h5 x hx
      exact ⟨b', o, arr, el, h1, ⟨by rw [hh, if_neg hne]; exact h2, h3⟩, fun j hj => (h4 j hj).mono (GLe.refl G) hw, h5⟩
    · intro t m ht
      obtain ⟨b', o, arr, el, h1, ⟨h2, h3⟩, h4, h5⟩ := hs.toksR t m ht
      have hne : b' ≠ b := by rintro rfl; exact hb2 ⟨_, _, _, h1⟩
      exact ⟨b', o, arr, el, h1, ⟨by rw [hh, if_neg hne]; exact h2, h3⟩, h4, h5⟩
  · rw [hh, if_neg (by omega)]
set_option maxHeartbeats 1000000 in
theorem pure_ok {o : Oper} {v : V} (he : EnvR G tl E w env a) (hs : Store G tl E toks objs w) (hE : E ≤ w.heap.size) (h : pureV P (opd env) o.op = some v) : Does P G tl E objs w a o v toks objs := by
  have hop : ∃ op, o.op = op := ⟨_, rfl⟩
  obtain ⟨op, hop⟩ := hop
  rw [hop] at h
  cases op with
  | move x =>
    simp only [pureV] at h; cases h
    exact does_same hs (by simp [execOp, hop]) (opd_vr he x) (opd_tok he x)
  | assign x =>
    simp only [pureV] at h; cases h
    exact does_same hs (by simp [execOp, hop]) (opd_vr he x) (opd_tok he x)
  | pick c x y =>
    simp only [pureV] at h
    split at h
    case h_2 => cases h
    rename_i t hc
    cases h
    have hcv := opd_vr he c
    rw [hc] at hcv
    have hcv := hcv.bool_inv
    cases t
    · exact does_same hs (c := a.eval y) (by simp [execOp, hop, hcv, asBool]) (opd_vr he y) (opd_tok he y)
    · exact does_same hs (c := a.eval x) (by simp [execOp, hop, hcv, asBool]) (opd_vr he x) (opd_tok he x)
  | binOp b t x y yt =>
    simp only [pureV] at h
    obtain ⟨r, h1, h2⟩ := bin_run (opd_vr he x) (opd_vr he y) h x y
    refine does_same hs (c := r) ?_ ?_ ?_
    · simp only [execOp, hop, Sem.run_bind] at h1 ⊢
      rw [h1]; rfl
    · rcases h2 with ⟨k, n, rfl, rfl⟩ | ⟨q, rfl, rfl⟩ | ⟨s, rfl, rfl⟩
      · exact .int
      · exact .bool
      · exact .str
    · rcases h2 with ⟨k, n, rfl, rfl⟩ | ⟨q, rfl, rfl⟩ | ⟨s, rfl, rfl⟩ <;> exact flatTok (by simp) (by simp)
  | unOp u t x =>
    simp only [pureV] at h
    have hx := opd_vr he x
    unfold unV at h
    split at h <;> cases h
    · rename_i k n hk; rw [hk] at hx; have := hx.int_inv
      exact does_same hs (c := .int k (k.wrap (0 - n))) (by simp [execOp, hop, this, Op.unary, Op.intArith]) .int (flatTok (by simp) (by simp))
    · rename_i k n hk; rw [hk] at hx; have := hx.int_inv
      exact does_same hs (c := .int k (Go.bits .xor k (if k.signed then -1 else k.max) n)) (by simp [execOp, hop, this, Op.unary, intBits_xor]) .int (flatTok (by simp) (by simp))
    · rename_i b hk; rw [hk] at hx; have := hx.bool_inv
      exact does_same hs (c := .bool (!b)) (by simp [execOp, hop, this, Op.unary]) .bool (flatTok (by simp) (by simp))
  | extract t i =>
    simp only [pureV] at h
    split at h
    case h_2 => cases h
    rename_i vs hv
    have hx := opd_vr he t
    have ht := opd_tok he t
    rw [hv] at hx ht
    obtain ⟨as, e, h1, h2⟩ := hx.tup_inv
    rcases Nat.lt_or_ge i vs.length with hi | hi
    · rw [List.getElem?_eq_getElem hi] at h
      have hnt : ∀ us, (vs[i]'hi) ≠ .tup us := by
        intro us e'; rw [e'] at h; cases h
      have h : v = (vs[i]'hi) := by
        split at h
        · cases h
        · exact (Option.some.inj h).symm
      subst h
      refine does_same hs (c := as.getD i Go.undef) ?_ (h2 i hi) ⟨ht.2 vs as rfl e i hi, ?_⟩
      · rw [getD_eq (by omega)]
        simp [execOp, hop, e, Instr.extract, show i < as.size by omega]
      · intro vs' as' e1
        exact absurd e1 (hnt _)
    · rw [List.getElem?_eq_none hi] at h; cases h
  | nilCheck x =>
    simp only [pureV] at h
    have hx := opd_vr he x
    split at h <;> cases h
    · rename_i id ver off hk; rw [hk] at hx
      obtain ⟨b, o', hl, e⟩ := hx.ptr_inv
      exact does_same hs (c := a.eval x) (by simp [execOp, hop, e]) (by rw [e]; exact .ptr hl) (flatTok (by simp) (by simp))
    · rename_i cs off hk; rw [hk] at hx
      obtain ⟨b, f, e, _⟩ := hx.fptr_inv
      exact does_same hs (c := a.eval x) (by simp [execOp, hop, e]) hx (flatTok (by simp) (by simp))
    · rename_i f p q hk; rw [hk] at hx
      obtain ⟨as, bs, e, _⟩ := hx.fn_inv
      exact does_same hs (c := a.eval x) (by simp [execOp, hop, e]) hx (flatTok (by simp) (by simp))
  | convert s d x =>
    simp only [pureV] at h
    have hx := opd_vr he x
    have htk := opd_tok he x
    unfold convV at h
    split at h
    · rename_i ds k k' n hu1 hu2 hk
      cases h
      rw [hk] at hx
      have := hx.int_inv
      exact does_same hs (c := .int k (k.wrap n)) (by simp [execOp, hop, this, convert, run_underlying hu1, run_underlying hu2, Conv.intToInt]) .int (flatTok (by simp) (by simp))
    · rename_i ds s hu1 hu2 hk
      cases h
      rw [hk] at hx
      have := hx.str_inv
      exact does_same hs (c := .string s) (by cases ds <;> simp [execOp, hop, this, convert, run_underlying hu1, run_underlying hu2]) .str (flatTok (by simp) (by simp))
    · rename_i e e' cs len hu1 hu2 hk
      split at h
      case isFalse => cases h
      rename_i hc
      obtain ⟨rfl, hne⟩ := hc
      rw [hk] at hx htk
      split at h <;> cases h
      rename_i hu3
      have hee : e = e' := by rw [hu1] at hu2; cases hu2; rfl
      subst hee
      obtain ⟨q, cap, f, e1, hl, hst, hcl, hv⟩ := hx.lst_inv
      obtain ⟨q', cap', e2, t1, t2, t3⟩ := htk.1.2.1 cs len rfl
      rw [e1] at e2; cases e2
      have hpos : 0 < cs.length := List.length_pos_iff.2 hne
      have hsh : ∃ el sz, w.shape? q.block = some (el, sz) := by
        have := hcl 0 hpos
        unfold World.cell? at this
        rw [add_block] at this
        unfold World.shape?
        cases hq : w.heap[q.block]? with
        | none => rw [hq] at this; cases this
        | some o => cases o <;> first | exact ⟨_, _, rfl⟩ | (rw [hq] at this; cases this)
      obtain ⟨el, sz, hsh⟩ := hsh
      obtain ⟨w', rfl, g1, g2, g3, g4⟩ := freeze_res (n := sz) hs t1 t3 ⟨_, hst 0 hpos⟩
      refine ⟨.slice (some q) len cap, _, G, tl, .inl ?_, ⟨VR.mono (by rw [e1] at hx; exact hx) (GLe.refl G) g1, TokT.mono (by rw [e1] at htk; exact htk) (TLe.refl tl w) g1, GLe.refl G, TLe.refl tl w, g1, g2, g3, fun _ _ h => .inr h, fun _ _ _ h => h⟩⟩
      simp [execOp, hop, e1, convert, run_underlying hu1, run_underlying hu3, markStringish, hsh]
    · rename_i e k cs len hu1 hu2 hk
      rw [hk] at hx
      split at h
      case h_2 => cases h
      rename_i xs hu3 hxs
      split at h <;> cases h
      rename_i hlen
      obtain ⟨q, cap, f, e1, hl, hst, hcl, hv⟩ := hx.lst_inv
      obtain ⟨g1, g2⟩ := u8s_get hxs
      have hlc := run_loadCells_list (P := P) w q (xs.map (Value.int .u8)) (fun j v hj => by
        have hjl : j < xs.length := by
          rcases Nat.lt_or_ge j xs.length with h | h
          · exact h
          · rw [List.getElem?_eq_none (by simpa using h)] at hj; cases hj
        rw [hcl j (by omega)]
        have hvj := hv j (by omega)
        rw [g2 j (by omega) hjl] at hvj
        rw [hvj.int_inv]
        rw [List.getElem?_map, List.getElem?_eq_getElem hjl] at hj
        exact hj)
      rw [List.length_map, ← hlen] at hlc
      have hrun : (convert s d (.slice (some q) len cap)).run P w = .ok (.string (strOfNums xs)) w := by
        rw [run_convert_bytes_string w s d e _ len cap hu1 hu3 hu2, run_bytesToString w q len cap xs hlc, foldl_push_bytes]
        simp [strOfNums, ByteArray.empty, ByteArray.emptyWithCapacity]
        rfl
      exact does_same hs (c := .string (strOfNums xs)) (by simp [execOp, hop, e1, hrun]) .str (flatTok (by simp) (by simp))
    · rename_i e hu1 hu2 hk
      rw [hk] at hx
      split at h
      case h_2 => cases h
      rename_i hu3
      cases h
      have e1 := hx.nils_inv
      have hrun := run_convert_bytes_nil (P := P) w s e hu1 hu3 0 0 d hu2
      exact does_same hs (c := .string ByteArray.empty) (by simp [execOp, hop, e1, hrun]) .str (flatTok (by simp) (by simp))
    · cases h
  | build t parts =>
    simp only [pureV] at h
    split at h
    case isFalse => cases h
    rename_i hsd
    cases hz : zeroV P t with
    | none => rw [hz] at h; cases h
    | some z =>
      rw [hz] at h
      simp only at h
      cases hf : fillV (placeOf P t) z (parts.toList.map fun p => (p.1, demote (opd env p.2))) with
      | none => rw [hf] at h; cases h
      | some cs =>
        rw [hf] at h; cases h
        obtain ⟨zv, i, z1, z2, z3, z4, z5, z6⟩ := zero_run (w := w) hz
        obtain ⟨hm, hv⟩ := parts_vr he parts
        obtain ⟨bs, b1, b2, b3⟩ := fill_run (G := G) (w := w) _ _ z zv.cells cs hf z4 (z6 G) hm hv
        have hx : VR G w (.agg cs) (.agg bs) := .agg b2 b3
        refine does_same hs (c := .agg bs) ?_ hx (flatTok (by simp) (by simp))
        have hrun := build_run (w := w) (cparts := parts.map fun ((i, x) : Nat × Operand) => (i, a.eval x)) hsd z3 b1
        simp only [execOp, hop]
        have hrun' : (Instr.build t (parts.map fun ((i, x) : Nat × Operand) => (i, a.eval x))).run P w = .ok (.agg bs) w := hrun
        simp only [Sem.run_bind]
        erw [hrun']
        rfl
  | buildSlice t n parts =>
    simp only [pureV] at h
    cases hr : listV P t n (parts.toList.map fun p => (p.1, demote (opd env p.2))) with
    | none => rw [hr] at h; cases h
    | some r =>
      rw [hr] at h; cases h
      unfold listV at hr
      split at hr
      case h_2 => cases hr
      rename_i e hu
      split at hr
      case h_2 => cases hr
      rename_i sz z hs1 hz
      split at hr
      case isFalse => cases hr
      rename_i hn
      cases hf : fillV (fun i => some (i * sz, sz)) (zeros z n) (parts.toList.map fun p => (p.1, demote (opd env p.2))) with
      | none => rw [hf] at hr; cases hr
      | some cs =>
        rw [hf] at hr; cases hr
        obtain ⟨hm, hv⟩ := parts_vr he parts
        obtain ⟨arr, b1, b2, b3⟩ := list_place (w := w) (G := G) hu hs1 hz hn.1 hn.2 hf hm hv
        refine ⟨_, _, _, _, .inl ?_, alloc_lst (arr := arr) (e := e) hs hE (.inr rfl) (Nat.le_refl _) (by show cs.length ≤ _; omega) b3⟩
        simp only [execOp, hop, Sem.run_bind]
        have hrun' : (Instr.buildSlice t n (parts.map fun ((i, x) : Nat × Operand) => (i, a.eval x))).run P w = _ := b1
        erw [hrun']
        rfl
  | fieldAddr t x i =>
    simp only [pureV] at h
    exact does_of_same hs (fieldAddr_same (opd_vr he x) h) (by simp [execOp, hop])
  | field t x i =>
    simp only [pureV] at h
    split at h
    case h_2 => cases h
    rename_i fs cs hu hk
    have hx := opd_vr he x
    rw [hk] at hx
    obtain ⟨as, e, h1, h2⟩ := hx.agg_inv
    cases hf : fs[i]? with
    | none => rw [hf] at h; cases h
    | some f =>
      rw [hf] at h
      simp only at h
      cases hg : getV P f.type cs f.offset with
      | none => rw [hg] at h; cases h
      | some u =>
        rw [hg] at h; cases h
        obtain ⟨c, c1, c2⟩ := getV_part hg h1 h2
        exact does_same hs (c := c) (by simp [execOp, hop, e, Instr.field, run_underlying hu, hf, asAgg, c1]) c2.demote TokT.demote
  | indexAddr t x i =>
    simp only [pureV] at h
    exact does_of_same hs (index_same (opd_vr he x) (opd_vr he i) h) (by simp [execOp, hop])
  | index t x i =>
    simp only [pureV] at h
    have hx := opd_vr he x
    have hi := opd_vr he i
    split at h
    · rename_i s k n hu h1 h2
      rw [h1] at hx; rw [h2] at hi
      have e1 := hx.str_inv
      have e2 := hi.int_inv
      split at h
      case isFalse => cases h
      rename_i hn
      split at h <;> cases h
      rename_i b hb
      exact does_same hs (c := .int .u8 b.toNat) (by simp [execOp, hop, e1, e2, Instr.index, asIntOf, run_underlying hu, hn, hb]) .int (flatTok (by simp) (by simp))
    · rename_i k e cs ik n hu h1 h2
      rw [h1] at hx; rw [h2] at hi
      obtain ⟨as, e1, g1, g2⟩ := hx.agg_inv
      have e2 := hi.int_inv
      split at h
      case isFalse => cases h
      rename_i hn
      cases hsz : sizeOf? P e with
      | none => rw [hsz] at h; cases h
      | some sz =>
        rw [hsz] at h
        simp only at h
        cases hg : getV P e cs (n.toNat * sz) with
        | none => rw [hg] at h; cases h
        | some u =>
          rw [hg] at h; cases h
          obtain ⟨c, c1, c2⟩ := getV_part hg g1 g2
          exact does_same hs (c := c) (by simp [execOp, hop, e1, e2, Instr.index, asIntOf, run_underlying hu, hn, size_run hsz, c1]) c2.demote TokT.demote
    · cases h
  | makeFunc f xs ys =>
    simp only [pureV] at h; cases h
    refine does_same hs (c := .func f (xs.map a.eval) (ys.map a.eval)) (by simp [execOp, hop, Instr.makeFunc]) (.fn (by simp) (by simp) ?_ ?_) (flatTok (by simp) (by simp))
    · intro j hj
      simp only [List.length_map, Array.length_toList] at hj
      rw [getD_eq (by simp; omega)]
      simp only [List.getElem_map, Array.getElem_map, Array.getElem_toList]
      exact (opd_vr he _).demote
    · intro j hj
      simp only [List.length_map, Array.length_toList] at hj
      rw [getD_eq (by simp; omega)]
      simp only [List.getElem_map, Array.getElem_map, Array.getElem_toList]
      exact (opd_vr he _).demote
  | makeInterface t x =>
    simp only [pureV] at h
    split at h
    · cases h
    · rename_i d hni hu
      cases h
      refine does_same hs (c := .iface t (a.eval x)) ?_ (.iface (opd_vr he x).demote) (flatTok (by simp) (by simp))
      have : (Instr.makeInterface t (a.eval x)).run P w = .ok (.iface t (a.eval x)) w := by
        unfold Instr.makeInterface
        simp only [Sem.run_bind, run_underlying hu, Result.andThen_ok]
        cases d <;> first | rfl | exact absurd rfl (hni _)
      simp [execOp, hop, this]
    · cases h
  | sliceToArrayPointer t x =>
    simp only [pureV] at h
    have hx := opd_vr he x
    split at h
    · rename_i n e k cs len hu h1
      rw [h1] at hx
      obtain ⟨q, cap, f, e1, hl, hst, hcl, hv⟩ := hx.lst_inv
      split at h <;> cases h
      rename_i hn
      exact does_same hs (c := .pointer (some (q.add 0))) (by simp [execOp, hop, e1, Instr.arrayAt, run_underlying hu, show ¬ len < n by omega, Addr.add]) (.fptr f hst hcl hv) (flatTok (by simp) (by simp))
    · rename_i n e id ver off len sz hu h1
      rw [h1] at hx
      obtain ⟨b, o', cap, p, arr, el, fz, e1, hloc, hl, hb, hp, hsz⟩ := hx.ref_inv
      split at h <;> cases h
      rename_i hn
      obtain rfl := hp (by omega)
      exact does_same hs (c := .pointer (some ⟨b, o' + off, none⟩)) (by simp [execOp, hop, e1, Instr.arrayAt, run_underlying hu, show ¬ len < n by omega]) (.ptr hloc) (flatTok (by simp) (by simp))
    · cases h
  | call c =>
    obtain ⟨callee, args, ats⟩ := c
    cases callee with
    | value f => simp only [pureV] at h; cases h
    | invoke r m => simp only [pureV] at h; cases h
    | builtin b =>
      cases b with
      | len =>
        simp only [pureV] at h
        split at h
        case h_2 => cases h
        rename_i t x ht hx0
        have hx := opd_vr he x
        have ha : (args.map a.eval)[0]? = some (a.eval x) := by simp [hx0]
        have hrun : ∀ c, (Builtin.len_ ats o.type (args.map a.eval)).run P w = .ok c w → (execOp a.eval o).run P w = .ok (.value c) w := by
          intro c hc
          simp [execOp, hop, resolve, invoke, builtin, hc]
        split at h <;> try (cases h; done)
        · rename_i s hu hk; rw [hk] at hx; have e := hx.str_inv; cases h
          exact does_same hs (hrun _ (by simp [Builtin.len_, ht, ha, e, run_underlying hu, goInt])) .int (flatTok (by simp) (by simp))
        · rename_i el k cs len hu hk; rw [hk] at hx; obtain ⟨q, cap, f, e, _⟩ := hx.lst_inv; cases h
          exact does_same hs (hrun _ (by simp [Builtin.len_, ht, ha, e, run_underlying hu, goInt])) .int (flatTok (by simp) (by simp))
        · rename_i el hu hk; rw [hk] at hx; have e := hx.nils_inv; cases h
          exact does_same hs (hrun _ (by simp [Builtin.len_, ht, ha, e, run_underlying hu, goInt])) .int (flatTok (by simp) (by simp))
        · rename_i el id ver off len sz hu hk; rw [hk] at hx; obtain ⟨b, o', cap, p, arr, el, fz, e, _⟩ := hx.ref_inv; cases h
          exact does_same hs (hrun _ (by simp [Builtin.len_, ht, ha, e, run_underlying hu, goInt])) .int (flatTok (by simp) (by simp))
        · rename_i n el hu; cases h
          exact does_same hs (hrun _ (by simp [Builtin.len_, ht, ha, run_underlying hu, goInt])) .int (flatTok (by simp) (by simp))
        · rename_i k el hu hk; rw [hk] at hx; have e := hx.nilm_inv
          cases h
          exact does_same hs (hrun _ (by simp [Builtin.len_, ht, ha, e, run_underlying hu, goInt])) .int (flatTok (by simp) (by simp))
      | max =>
        simp only [pureV] at h
        split at h
        case h_2 => cases h
        rename_i v0 vs hl
        have hargs : ∃ x xs, args.toList = x :: xs := by
          cases hq : args.toList with
          | nil => rw [hq] at hl; cases hl
          | cons x xs => exact ⟨x, xs, rfl⟩
        obtain ⟨x, xs, hargs⟩ := hargs
        rw [hargs, List.map_cons] at hl
        obtain ⟨rfl, rfl⟩ := List.cons.inj hl
        obtain ⟨k, n, rfl, hr⟩ := minmax_run (P := P) (w := w) (G := G) (big := true) (ats := #[]) (ty := 0) _ _ _ _ (xs.map a.eval) h (opd_vr he x) (by simp) (fun j h1 h2 => by simp only [List.getElem_map]; exact opd_vr he _)
        refine does_same hs (c := .int k n) ?_ .int (flatTok (by simp) (by simp))
        have : (Builtin.max_ ats o.type (args.map a.eval)).run P w = .ok (.int k n) w := by
          unfold Builtin.max_
          simp only [Array.toList_map, hargs, List.map_cons]
          exact hr
        simp [execOp, hop, resolve, invoke, builtin, this]
      | min =>
        simp only [pureV] at h
        split at h
        case h_2 => cases h
        rename_i v0 vs hl
        have hargs : ∃ x xs, args.toList = x :: xs := by
          cases hq : args.toList with
          | nil => rw [hq] at hl; cases hl
          | cons x xs => exact ⟨x, xs, rfl⟩
        obtain ⟨x, xs, hargs⟩ := hargs
        rw [hargs, List.map_cons] at hl
        obtain ⟨rfl, rfl⟩ := List.cons.inj hl
        obtain ⟨k, n, rfl, hr⟩ := minmax_run (P := P) (w := w) (G := G) (big := false) (ats := #[]) (ty := 0) _ _ _ _ (xs.map a.eval) h (opd_vr he x) (by simp) (fun j h1 h2 => by simp only [List.getElem_map]; exact opd_vr he _)
        refine does_same hs (c := .int k n) ?_ .int (flatTok (by simp) (by simp))
        have : (Builtin.min_ ats o.type (args.map a.eval)).run P w = .ok (.int k n) w := by
          unfold Builtin.min_
          simp only [Array.toList_map, hargs, List.map_cons]
          exact hr
        simp [execOp, hop, resolve, invoke, builtin, this]
      | _ => simp only [pureV] at h; cases h
  | _ => simp only [pureV] at h; cases h
end
end Go.Ab
