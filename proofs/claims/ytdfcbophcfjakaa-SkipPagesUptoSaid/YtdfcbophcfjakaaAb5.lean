import Derived.Test.YtdfcbophcfjakaaAb4
import Derived.WideLaws
import Derived.Laws.Strings
import Derived.Laws.Small
import Derived.Laws.StructEq
import Derived.Laws.Cover1
import Derived.Laws.Cover3
import Derived.Laws.ShiftsVarLaws
set_option linter.unusedSimpArgs false
set_option linter.unusedVariables false
set_option linter.unusedSectionVars false
/- Operations that depend on their operands alone. -/
namespace Go.Ab
def EnvR (G : Gh) (tl : Nat → Nat → Option (Nat × Nat)) (E : Nat) (w : World) (env : Nat → V) (a : Act) : Prop :=
  ∀ t, VR G w (env t) (a.tmps.getD t Go.undef) ∧ TokT tl E w (env t) (a.tmps.getD t Go.undef)
theorem ofCell_vr {G : Gh} {w : World} (v : Value) : VR G w (ofCell v) v := by
  unfold ofCell
  split <;> constructor
  intro b h
  rename_i q _ _ _ _ _ _
  exact q b h
theorem ofCell_plain (v : Value) : (∀ k cs len, ofCell v ≠ .lst k cs len) ∧ (∀ vs, ofCell v ≠ .tup vs) ∧ (∀ cs, ofCell v ≠ .agg cs) := by
  unfold ofCell
  split <;> simp
theorem ofConst_vr {G : Gh} {w : World} (v : Value) : VR G w (ofConst v) v := by
  unfold ofConst
  split
  · rename_i cs
    refine .agg (by simp) (fun j h => ?_)
    simp only [List.length_map, Array.length_toList] at h
    simp only [List.getElem_map, Array.getElem_toList, Array.getD, h, dif_pos]
    exact ofCell_vr _
  · exact ofCell_vr _
theorem ofConst_tok {tl : Nat → Nat → Option (Nat × Nat)} {E : Nat} {w : World} (v : Value) (c : Value) : TokT tl E w (ofConst v) c := by
  refine TokT.of ?_ ?_
  · intro k cs len h
    unfold ofConst at h
    split at h
    · cases h
    · exact absurd h ((ofCell_plain _).1 _ _ _)
  · intro vs h
    unfold ofConst at h
    split at h
    · cases h
    · exact absurd h ((ofCell_plain _).2.1 _)
theorem opd_vr {G : Gh} {tl : Nat → Nat → Option (Nat × Nat)} {E : Nat} {w : World} {env : Nat → V} {a : Act} (h : EnvR G tl E w env a) (x : Operand) : VR G w (opd env x) (a.eval x) := by
  cases x with
  | tmp t => exact (h t).1
  | const v => exact ofConst_vr v
  | global g => exact .undef (fun _ => nofun)
  | func f => exact .fn rfl rfl (fun j h => absurd h (by simp)) (fun j h => absurd h (by simp))
theorem opd_tok {G : Gh} {tl : Nat → Nat → Option (Nat × Nat)} {E : Nat} {w : World} {env : Nat → V} {a : Act} (h : EnvR G tl E w env a) (x : Operand) : TokT tl E w (opd env x) (a.eval x) := by
  cases x with
  | tmp t => exact (h t).2
  | const v => exact ofConst_tok v _
  | global g => exact TokT.of (fun _ _ _ h => by simp [opd] at h) (fun _ h => by simp [opd] at h)
  | func f => exact TokT.of (fun _ _ _ h => by simp [opd] at h) (fun _ h => by simp [opd] at h)
theorem VR.int_inv {G : Gh} {w : World} {k : IntKind} {n : Int} {c : Value} (h : VR G w (.int k n) c) : c = .int k n := by cases h; rfl
theorem VR.bool_inv {G : Gh} {w : World} {b : Bool} {c : Value} (h : VR G w (.bool b) c) : c = .bool b := by cases h; rfl
theorem VR.str_inv {G : Gh} {w : World} {b : ByteArray} {c : Value} (h : VR G w (.str b) c) : c = .string b := by cases h; rfl
theorem VR.undef_inv {G : Gh} {w : World} {c : Value} (h : VR G w .undef c) : ∀ b, c ≠ .bool b := by
  cases h; assumption
theorem VR.agg_inv {G : Gh} {w : World} {cs : List V} {c : Value} (h : VR G w (.agg cs) c) : ∃ as, c = .agg as ∧ as.size = cs.length ∧ ∀ j (h : j < cs.length), VR G w (cs[j]'h) (as.getD j Go.undef) := by
  cases h with
  | agg h hv => exact ⟨_, rfl, h, hv⟩
theorem VR.tup_inv {G : Gh} {w : World} {cs : List V} {c : Value} (h : VR G w (.tup cs) c) : ∃ as, c = .tuple as ∧ as.size = cs.length ∧ ∀ j (h : j < cs.length), VR G w (cs[j]'h) (as.getD j Go.undef) := by
  cases h with
  | tup h hv => exact ⟨_, rfl, h, hv⟩
/-! whole numbers -/
theorem intBin_run {P : Program} {w : World} {op : BinOp} {t : TypeId} {k k' : IntKind} {a b : Int} {v : V} (h : intBin op k a k' b = some v) :
    ∃ c, (binOp op t (.int k a) (.int k' b)).run P w = .ok c w ∧ ((∃ k n, v = .int k n ∧ c = .int k n) ∨ (∃ q, v = .bool q ∧ c = .bool q)) := by
  cases op with
  | shl =>
    simp only [intBin] at h
    split at h
    · cases h
    · rename_i hb; cases h
      exact ⟨_, by simp [binOp, Op.shift, hb], .inl ⟨_, _, rfl, rfl⟩⟩
  | shr =>
    simp only [intBin] at h
    split at h
    · cases h
    · rename_i hb; cases h
      exact ⟨_, by simp [binOp, Op.shift, hb], .inl ⟨_, _, rfl, rfl⟩⟩
  | add => simp only [intBin] at h; split at h <;> cases h; rename_i hk; simp only [ne_eq, Decidable.not_not] at hk; subst hk; exact ⟨_, by simp [binOp, Op.intArith], .inl ⟨_, _, rfl, rfl⟩⟩
  | sub => simp only [intBin] at h; split at h <;> cases h; rename_i hk; simp only [ne_eq, Decidable.not_not] at hk; subst hk; exact ⟨_, by simp [binOp, Op.intArith], .inl ⟨_, _, rfl, rfl⟩⟩
  | mul => simp only [intBin] at h; split at h <;> cases h; rename_i hk; simp only [ne_eq, Decidable.not_not] at hk; subst hk; exact ⟨_, by simp [binOp, Op.intArith], .inl ⟨_, _, rfl, rfl⟩⟩
  | quo => simp only [intBin] at h; split at h; · cases h
           rename_i hk; simp only [ne_eq, Decidable.not_not] at hk; subst hk; split at h; · cases h
           rename_i hb; cases h; exact ⟨_, by simp [binOp, Op.intDiv, hb], .inl ⟨_, _, rfl, rfl⟩⟩
  | rem => simp only [intBin] at h; split at h; · cases h
           rename_i hk; simp only [ne_eq, Decidable.not_not] at hk; subst hk; split at h; · cases h
           rename_i hb; cases h; exact ⟨_, by simp [binOp, Op.intDiv, hb], .inl ⟨_, _, rfl, rfl⟩⟩
  | and => simp only [intBin] at h; split at h <;> cases h; rename_i hk; simp only [ne_eq, Decidable.not_not] at hk; subst hk; exact ⟨_, by simp [binOp, intBits_and], .inl ⟨_, _, rfl, rfl⟩⟩
  | or => simp only [intBin] at h; split at h <;> cases h; rename_i hk; simp only [ne_eq, Decidable.not_not] at hk; subst hk; exact ⟨_, by simp [binOp, intBits_or], .inl ⟨_, _, rfl, rfl⟩⟩
  | xor => simp only [intBin] at h; split at h <;> cases h; rename_i hk; simp only [ne_eq, Decidable.not_not] at hk; subst hk; exact ⟨_, by simp [binOp, intBits_xor], .inl ⟨_, _, rfl, rfl⟩⟩
  | andNot => simp only [intBin] at h; split at h <;> cases h; rename_i hk; simp only [ne_eq, Decidable.not_not] at hk; subst hk; exact ⟨_, by simp [binOp, intBits_andNot], .inl ⟨_, _, rfl, rfl⟩⟩
  | eql => simp only [intBin] at h; split at h <;> cases h; rename_i hk; simp only [ne_eq, Decidable.not_not] at hk; subst hk; exact ⟨_, by simp [binOp, Op.intCmp], .inr ⟨_, rfl, rfl⟩⟩
  | neq => simp only [intBin] at h; split at h <;> cases h; rename_i hk; simp only [ne_eq, Decidable.not_not] at hk; subst hk; exact ⟨_, by simp [binOp, Op.intCmp], .inr ⟨_, rfl, rfl⟩⟩
  | lss => simp only [intBin] at h; split at h <;> cases h; rename_i hk; simp only [ne_eq, Decidable.not_not] at hk; subst hk; exact ⟨_, by simp [binOp, Op.intCmp], .inr ⟨_, rfl, rfl⟩⟩
  | leq => simp only [intBin] at h; split at h <;> cases h; rename_i hk; simp only [ne_eq, Decidable.not_not] at hk; subst hk; exact ⟨_, by simp [binOp, Op.intCmp], .inr ⟨_, rfl, rfl⟩⟩
  | gtr => simp only [intBin] at h; split at h <;> cases h; rename_i hk; simp only [ne_eq, Decidable.not_not] at hk; subst hk; exact ⟨_, by simp [binOp, Op.intCmp], .inr ⟨_, rfl, rfl⟩⟩
  | geq => simp only [intBin] at h; split at h <;> cases h; rename_i hk; simp only [ne_eq, Decidable.not_not] at hk; subst hk; exact ⟨_, by simp [binOp, Op.intCmp], .inr ⟨_, rfl, rfl⟩⟩
theorem strBin_run {P : Program} {w : World} {op : BinOp} {t : TypeId} {a b : ByteArray} {v : V} (h : strBin op a b = some v) :
    ∃ c, (binOp op t (.string a) (.string b)).run P w = .ok c w ∧ ((∃ s, v = .str s ∧ c = .string s) ∨ (∃ q, v = .bool q ∧ c = .bool q)) := by
  cases op with
  | add =>
    simp only [strBin] at h
    split at h
    · rename_i hs; cases h
      refine ⟨_, ?_, .inl ⟨_, rfl, rfl⟩⟩
      rw [binOp_string_add]
      unfold Op.stringOp
      simp only [IntKind.max, IntKind.signed, IntKind.bits]
      rw [if_neg (by simp; omega)]; rfl
    · cases h
  | eql => simp only [strBin] at h; cases h; exact ⟨_, by simp [binOp, Op.stringOp], .inr ⟨_, rfl, rfl⟩⟩
  | neq => simp only [strBin] at h; cases h; exact ⟨_, by simp [binOp, Op.stringOp], .inr ⟨_, rfl, rfl⟩⟩
  | lss => simp only [strBin] at h; cases h; exact ⟨_, by simp [binOp, Op.stringOp], .inr ⟨_, rfl, rfl⟩⟩
  | _ => cases h
/-! equality -/
theorem part_run {P : Program} {w : World} {t : TypeId} {cs : Array Value} {off : Nat} (hk : known P t = true) (ha : isAgg P t = false) (h : off < cs.size) : (part t cs off).run P w = .ok (cs.getD off Go.undef) w := by
  unfold known at hk
  obtain ⟨d, hd⟩ := Option.isSome_iff_exists.mp hk
  have : (Go.isAgg t).run P w = .ok false w := by
    unfold Go.isAgg
    simp only [Sem.run_bind, run_underlying hd, Result.andThen_ok]
    unfold isAgg at ha
    rw [hd] at ha
    cases d <;> simp_all
  unfold part
  simp only [Sem.run_bind, this, Result.andThen_ok, Bool.false_eq_true, if_false]
  simp [Array.getD, h]
theorem eqFields_run {P : Program} {G : Gh} {w : World} {n : Nat} {as bs : Array Value} : ∀ (fs : List Field) (i : Nat) (xs ys : List V) (r : Bool),
    (∀ j (h : j < fs.length), (fs[j]'h).name ≠ "_" ∧ (fs[j]'h).offset = i + j ∧ isAgg P (fs[j]'h).type = false ∧ known P (fs[j]'h).type = true) →
    eqCells (fs.map fun f => (P.underlying f.type).getD .invalid) xs ys = some r →
    (i + xs.length ≤ as.size ∧ ∀ j (h : j < xs.length), VR G w (xs[j]'h) (as.getD (i + j) Go.undef)) → (i + ys.length ≤ bs.size ∧ ∀ j (h : j < ys.length), VR G w (ys[j]'h) (bs.getD (i + j) Go.undef)) →
    (Op.eqFields (n + 1) as bs fs).run P w = .ok r w := by
  intro fs
  induction fs with
  | nil =>
    intro i xs ys r hf he hx hy
    cases xs <;> cases ys <;> simp only [List.map_nil, eqCells] at he <;> cases he
    rfl
  | cons f fs ih =>
    intro i xs ys r hf he hx hy
    obtain ⟨f1, f2, f3, f4⟩ := hf 0 (by simp)
    simp only [List.getElem_cons_zero, Nat.add_zero] at f1 f2 f3 f4
    have hrest : ∀ j (h : j < fs.length), (fs[j]'h).name ≠ "_" ∧ (fs[j]'h).offset = (i + 1) + j ∧ isAgg P (fs[j]'h).type = false ∧ known P (fs[j]'h).type = true := by
      intro j h
      have := hf (j + 1) (by simpa using h)
      simp only [List.getElem_cons_succ] at this
      exact ⟨this.1, by omega, this.2.2⟩
    obtain ⟨d, hd⟩ := Option.isSome_iff_exists.mp (show (P.underlying f.type).isSome = true from f4)
    rw [List.map_cons, hd, Option.getD_some] at he
    have tails : ∀ (x : V) (xs : List V) (as : Array Value), (i + (x :: xs).length ≤ as.size ∧ ∀ j (h : j < (x :: xs).length), VR G w ((x :: xs)[j]'h) (as.getD (i + j) Go.undef)) →
        VR G w x (as.getD i Go.undef) ∧ i < as.size ∧ ((i + 1) + xs.length ≤ as.size ∧ ∀ j (h : j < xs.length), VR G w (xs[j]'h) (as.getD ((i + 1) + j) Go.undef)) := by
      intro x xs as ⟨h1, h2⟩
      rw [List.length_cons] at h1
      refine ⟨?_, by omega, by omega, fun j h => ?_⟩
      · have := h2 0 (by simp)
        rwa [Nat.add_zero] at this
      have := h2 (j + 1) (by simpa using h)
      rw [show i + 1 + j = i + (j + 1) by omega]
      exact this
    have step : ∀ (c d : Value) (q r' : Bool) (xs' ys' : List V), as.getD i Go.undef = c → bs.getD i Go.undef = d → i < as.size → i < bs.size → (Op.equalIn (n + 1) f.type c d).run P w = .ok q w →
        (Op.eqFields (n + 1) as bs fs).run P w = .ok r' w → (Op.eqFields (n + 1) as bs (f :: fs)).run P w = .ok (q && r') w := by
      intro c d q r' xs' ys' hc hd' l1 l2 hq hr
      simp only [Op.eqFields, ne_eq, f1, not_false_eq_true, if_true, Sem.run_bind, f2, part_run (w := w) f4 f3 l1, part_run (w := w) f4 f3 l2, Result.andThen_ok, hc, hd', hq]
      cases q
      · simp
      · simp [hr]
    cases d <;> cases xs <;> cases ys <;> first | (simp [eqCells] at he; done) | skip
    all_goals rename_i x xs y ys
    all_goals obtain ⟨vx, lx, tx⟩ := tails x xs as hx
    all_goals obtain ⟨vy, ly, ty⟩ := tails y ys bs hy
    · cases x <;> cases y <;> simp only [eqCells] at he <;> try cases he
      cases h2 : eqCells (fs.map fun f => (P.underlying f.type).getD .invalid) xs ys <;> rw [h2] at he <;> cases he
      exact step _ _ _ _ xs ys vx.bool_inv vy.bool_inv lx ly (run_equalIn_bool' w n f.type _ _ hd) (ih (i + 1) xs ys _ hrest h2 tx ty)
    · cases x <;> cases y <;> simp only [eqCells] at he <;> try cases he
      split at he <;> try cases he
      rename_i hk; subst hk
      cases h2 : eqCells (fs.map fun f => (P.underlying f.type).getD .invalid) xs ys <;> rw [h2] at he <;> cases he
      exact step _ _ _ _ xs ys vx.int_inv vy.int_inv lx ly (run_equalIn_int w n f.type _ _ _ _ hd) (ih (i + 1) xs ys _ hrest h2 tx ty)
    · cases x <;> cases y <;> simp only [eqCells] at he <;> try cases he
      cases h2 : eqCells (fs.map fun f => (P.underlying f.type).getD .invalid) xs ys <;> rw [h2] at he <;> cases he
      exact step _ _ _ _ xs ys vx.str_inv vy.str_inv lx ly (run_equalIn_string w n f.type _ _ hd) (ih (i + 1) xs ys _ hrest h2 tx ty)
theorem equal_array {P : Program} {G : Gh} {w : World} {d : Nat} {t e : TypeId} {as bs : Array Value} {k : IntKind} {len : Nat} (ht : P.underlying t = some (.array len e)) (he : P.underlying e = some (.int k)) (hc : P.cellsOf e = 1) (hagg : isAgg P e = false) (hd : ∀ k' a b, (Op.equalIn d e (.int k' a) (.int k' b)).run P w = .ok (a == b) w)
    {xs ys : List V} {r : Bool} (hr : eqCells (List.replicate len (.int k)) xs ys = some r)
    (hx : as.size = xs.length ∧ ∀ j (h : j < xs.length), VR G w (xs[j]'h) (as.getD j Go.undef)) (hy : bs.size = ys.length ∧ ∀ j (h : j < ys.length), VR G w (ys[j]'h) (bs.getD j Go.undef)) :
    (Op.equalIn (d + 1) t (.agg as) (.agg bs)).run P w = .ok r w := by
  have hk : known P e = true := by unfold known; rw [he]; rfl
  have hsz : (Go.sizeOf e).run P w = .ok 1 w := by
    unfold Program.cellsOf at hc
    cases hi : P.info? e with
    | none => rw [hi] at hc; simp at hc
    | some i => rw [hi] at hc; simp at hc; simp [Go.sizeOf, typeInfo, hi, hc]
  simp only [Op.equalIn, Sem.run_bind, run_underlying ht, Result.andThen_ok, hsz, Nat.mul_one]
  rw [Std.Legacy.Range.forIn_eq_forIn_range', Std.Legacy.Range.size]
  simp only [Nat.sub_zero, Nat.add_sub_cancel, Nat.div_one]
  have key : ∀ (len i : Nat) (xs ys : List V) (r : Bool), eqCells (List.replicate len (.int k)) xs ys = some r →
      (as.size = i + xs.length ∧ ∀ j (h : j < xs.length), VR G w (xs[j]'h) (as.getD (i + j) Go.undef)) → (bs.size = i + ys.length ∧ ∀ j (h : j < ys.length), VR G w (ys[j]'h) (bs.getD (i + j) Go.undef)) →
      ∀ (K : Sem Bool) (F : Bool → Sem Bool), (forIn (List.range' i len) ((none, ()) : Option Bool × Unit) (fun i r => do
        if (!(← Op.equalIn d e (← part e as i) (← part e bs i))) = true then pure (ForInStep.done (some false, ())) else pure (ForInStep.yield (none, ()))) : Sem (Option Bool × Unit)).run P w = .ok (if r then none else some false, ()) w := by
    intro len
    induction len with
    | zero =>
      intro i xs ys r hr hx hy K F
      cases xs <;> cases ys <;> simp [eqCells] at hr
      subst hr; simp
    | succ len ih =>
      intro i xs ys r hr hx hy K F
      rw [List.replicate_succ] at hr
      cases xs <;> cases ys <;> first | (simp [eqCells] at hr; done) | skip
      rename_i x xs y ys
      cases x <;> cases y <;> simp only [eqCells] at hr <;> try cases hr
      split at hr <;> try cases hr
      rename_i hkk; subst hkk
      cases h2 : eqCells (List.replicate len (.int k)) xs ys <;> rw [h2] at hr <;> cases hr
      rename_i k0 a b r'
      have vx := hx.2 0 (by simp)
      have vy := hy.2 0 (by simp)
      rw [Nat.add_zero] at vx vy
      obtain ⟨hx1, hx2⟩ := hx
      obtain ⟨hy1, hy2⟩ := hy
      rw [List.length_cons] at hx1 hy1
      have q := ih (i + 1) xs ys r' h2 ⟨by omega, fun j h => by have := hx2 (j + 1) (by simpa using h); rw [show i + 1 + j = i + (j + 1) by omega]; exact this⟩ ⟨by omega, fun j h => by have := hy2 (j + 1) (by simpa using h); rw [show i + 1 + j = i + (j + 1) by omega]; exact this⟩ K F
      rw [List.range'_succ, List.forIn_cons]
      simp only [Sem.run_bind, part_run (w := w) hk hagg (show i < as.size by omega), part_run (w := w) hk hagg (show i < bs.size by omega), Result.andThen_ok, vx.int_inv, vy.int_inv, hd]
      cases hab : (a == b)
      · simp
      · simp only [Bool.not_true, Bool.false_eq_true, if_false, Sem.run_pure, Result.andThen_ok, Bool.true_and]
        exact q
  have := key len 0 xs ys r hr (by simpa using hx) (by simpa using hy) (pure true) (fun b => pure b)
  rw [this]
  cases r <;> simp

theorem nilFit_inv {d : Option TypeDesc} {x : V} (h : nilFit d x = true) :
    (∃ e, d = some (.slice e)) ∧ (x = .nils ∨ (∃ k cs len, x = .lst k cs len) ∨ ∃ i v o l e, x = .ref i v o l e) ∨ (∃ e, d = some (.pointer e)) ∧ (x = .nilp ∨ (∃ i v o, x = .ptr i v o) ∨ ∃ cs o, x = .fptr cs o) ∨
    (∃ k e, d = some (.map k e)) ∧ (x = .nilm ∨ ∃ i, x = .map i) ∨ (∃ a b c, d = some (.func a b c)) ∧ (x = .nilf ∨ ∃ f a b, x = .fn f a b) := by
  unfold nilFit at h
  split at h
  · exact .inl ⟨⟨_, rfl⟩, .inl rfl⟩
  · exact .inl ⟨⟨_, rfl⟩, .inr (.inl ⟨_, _, _, rfl⟩)⟩
  · exact .inl ⟨⟨_, rfl⟩, .inr (.inr ⟨_, _, _, _, _, rfl⟩)⟩
  · exact .inr (.inl ⟨⟨_, rfl⟩, .inl rfl⟩)
  · exact .inr (.inl ⟨⟨_, rfl⟩, .inr (.inl ⟨_, _, _, rfl⟩)⟩)
  · exact .inr (.inl ⟨⟨_, rfl⟩, .inr (.inr ⟨_, _, rfl⟩)⟩)
  · exact .inr (.inr (.inl ⟨⟨_, _, rfl⟩, .inl rfl⟩))
  · exact .inr (.inr (.inl ⟨⟨_, _, rfl⟩, .inr ⟨_, rfl⟩⟩))
  · exact .inr (.inr (.inr ⟨⟨_, _, _, rfl⟩, .inl rfl⟩))
  · exact .inr (.inr (.inr ⟨⟨_, _, _, rfl⟩, .inr ⟨_, _, _, rfl⟩⟩))
  · cases h
theorem nilEq_run {P : Program} {G : Gh} {w : World} {t : TypeId} {x y : V} {c d : Value} {r : Bool} (hx : VR G w x c) (hy : VR G w y d) (h : nilEq x y = some r)
    (ht : nilFit (P.underlying t) x = true) : (Op.equal t c d).run P w = .ok r w := by
  unfold Op.equal Op.maxDepth
  obtain ⟨n, hn⟩ : ∃ n, 10000 = n + 1 := ⟨9999, rfl⟩
  rw [hn]
  rcases nilFit_inv ht with ⟨⟨e, hu⟩, hx'⟩ | ⟨⟨e, hu⟩, hx'⟩ | ⟨⟨k, e, hu⟩, hx'⟩ | ⟨⟨a, b, q, hu⟩, hx'⟩
  · rcases hx' with rfl | ⟨_, _, _, rfl⟩ | ⟨_, _, _, _, _, rfl⟩ <;> cases y <;> simp only [nilEq] at h <;> cases h <;> cases hx <;> cases hy <;> simp [Op.equalIn, run_underlying hu]
  · rcases hx' with rfl | ⟨_, _, _, rfl⟩ | ⟨_, _, rfl⟩ <;> cases y <;> simp only [nilEq] at h <;> cases h <;> cases hx <;> cases hy <;> simp [Op.equalIn, run_underlying hu]
  · rcases hx' with rfl | ⟨_, rfl⟩ <;> cases y <;> simp only [nilEq] at h <;> cases h <;> cases hx <;> cases hy <;> simp [Op.equalIn, run_underlying hu]
  · rcases hx' with rfl | ⟨_, _, _, rfl⟩ <;> cases y <;> simp only [nilEq] at h <;> cases h <;> cases hx <;> cases hy <;> simp [Op.equalIn, run_underlying hu]
theorem eqGuard_run {P : Program} {w : World} {op : BinOp} {t : TypeId} {x y : Operand} {c d : Value} (h1 : c ≠ .nilIface) (h2 : ∀ as bs, c = .agg as → d = .agg bs → P.eqGuardType P.depth t = false) : (eqGuard op t x y c d).run P w = .ok () w := by
  cases c with
  | nilIface => exact absurd rfl h1
  | agg as =>
    cases d with
    | agg bs =>
      have := h2 _ _ rfl rfl
      cases op <;> simp [eqGuard, this]
    | _ => cases op <;> rfl
  | _ => cases op <;> first | rfl | (cases d <;> rfl)
theorem bin_run {P : Program} {G : Gh} {w : World} {op : BinOp} {t : TypeId} {x y : V} {c d : Value} {v : V} (hx : VR G w x c) (hy : VR G w y d) (h : binV P op t x y = some v) (xo yo : Operand) :
    ∃ r, (do eqGuard op t xo yo c d; binOp op t c d).run P w = .ok r w ∧ ((∃ k n, v = .int k n ∧ r = .int k n) ∨ (∃ q, v = .bool q ∧ r = .bool q) ∨ (∃ s, v = .str s ∧ r = .string s)) := by
  unfold binV at h
  split at h
  · cases hx; cases hy
    obtain ⟨r, h1, h2⟩ := intBin_run (P := P) (w := w) (t := t) h
    refine ⟨r, ?_, h2.imp id .inl⟩
    rw [Sem.run_bind, eqGuard_run (by simp) (by simp), Result.andThen_ok, h1]
  · cases hx; cases hy
    split at h <;> cases h
    · rename_i hu
      refine ⟨_, ?_, .inr (.inl ⟨_, rfl, rfl⟩)⟩
      rw [Sem.run_bind, eqGuard_run (by simp) (by simp), Result.andThen_ok, run_eql_bool w t _ _ hu]
    · rename_i hu
      refine ⟨_, ?_, .inr (.inl ⟨_, rfl, rfl⟩)⟩
      rw [Sem.run_bind, eqGuard_run (by simp) (by simp), Result.andThen_ok, run_neq_bool w t _ _ hu]
  · cases hx; cases hy
    obtain ⟨r, h1, h2⟩ := strBin_run (P := P) (w := w) (t := t) h
    refine ⟨r, ?_, ?_⟩
    · rw [Sem.run_bind, eqGuard_run (by simp) (by simp), Result.andThen_ok, h1]
    · rcases h2 with h2 | h2
      · exact .inr (.inr h2)
      · exact .inr (.inl h2)
  · rename_i xs ys
    obtain ⟨as, rfl, hx1, hx2⟩ := hx.agg_inv
    obtain ⟨bs, rfl, hy1, hy2⟩ := hy.agg_inv
    cases hf : flat P t with
    | none => rw [hf] at h; cases h
    | some ds =>
      rw [hf] at h
      simp only at h
      unfold flat at hf
      split at hf
      case isFalse => cases hf
      rename_i hg
      obtain ⟨hg1, hg2⟩ := hg
      have key : ∀ q, eqCells ds xs ys = some q → (Op.equalIn 10000 t (.agg as) (.agg bs)).run P w = .ok q w := by
        intro q hq
        split at hf
        · rename_i n e hu
          split at hf
          · rename_i k he
            split at hf
            · rename_i hc; cases hf
              exact equal_array (G := G) hu he hc.1 hc.2 (fun k' a b => run_equalIn_int w 9998 e _ _ _ _ he) hq ⟨hx1, hx2⟩ ⟨hy1, hy2⟩
            · cases hf
          · cases hf
        · rename_i fs hu
          split at hf
          · rename_i hall; cases hf
            have hfo : P.fieldsOf t = fs := by unfold Program.fieldsOf; rw [hu]
            rw [run_equalIn_struct w 9999 t as bs (by rw [hfo]; exact hu) hg2, hfo]
            refine eqFields_run (G := G) (n := 9998) fs.toList 0 xs ys q ?_ hq ⟨by omega, fun j h => by rw [Nat.zero_add]; exact hx2 j h⟩ ⟨by omega, fun j h => by rw [Nat.zero_add]; exact hy2 j h⟩
            intro j hj
            rw [List.all_eq_true] at hall
            have := hall ((fs.toList[j]'hj), j) (by rw [List.mem_zipIdx_iff_getElem?]; simp [hj])
            simp only [Bool.and_eq_true, bne_iff_ne, ne_eq, beq_iff_eq, Bool.not_eq_true'] at this
            obtain ⟨⟨⟨q1, q2⟩, q3⟩, q4⟩ := this
            refine ⟨q1, by omega, q3, ?_⟩
            unfold known
            split at q4 <;> first | (rename_i hh; rw [hh]; rfl) | cases q4
          · cases hf
        · cases hf
      split at h <;> cases h
      · rename_i q hq
        refine ⟨_, ?_, .inr (.inl ⟨_, rfl, rfl⟩)⟩
        rw [Sem.run_bind, eqGuard_run (by simp) (fun _ _ _ _ => hg1), Result.andThen_ok, run_eql_struct, key _ hq]; rfl
      · rename_i q hq
        refine ⟨_, ?_, .inr (.inl ⟨_, rfl, rfl⟩)⟩
        rw [Sem.run_bind, eqGuard_run (by simp) (fun _ _ _ _ => hg1), Result.andThen_ok, run_neq_struct, key _ hq]; rfl
  · rename_i hno1 hno2 hno3 hno4
    split at h
    case isFalse => cases h
    rename_i ht
    have hca : c ≠ .nilIface ∧ (∀ as, c ≠ .agg as) ∧ (∀ k n, c ≠ .int k n) ∧ (∀ k n, c ≠ .float k n) ∧ (∀ k n m, c ≠ .complex k n m) ∧ (∀ s, c ≠ .string s) := by
      rcases nilFit_inv ht with ⟨_, hx'⟩ | ⟨_, hx'⟩ | ⟨_, hx'⟩ | ⟨_, hx'⟩
      · rcases hx' with rfl | ⟨_, _, _, rfl⟩ | ⟨_, _, _, _, _, rfl⟩ <;> cases hx <;> simp
      · rcases hx' with rfl | ⟨_, _, _, rfl⟩ | ⟨_, _, rfl⟩ <;> cases hx <;> simp
      · rcases hx' with rfl | ⟨_, rfl⟩ <;> cases hx <;> simp
      · rcases hx' with rfl | ⟨_, _, _, rfl⟩ <;> cases hx <;> simp
    obtain ⟨hc, hc2, hc3, hc4, hc5, hc6⟩ := hca
    have ha : ∀ as bs, c = .agg as → d = .agg bs → P.eqGuardType P.depth t = false := fun as bs e => absurd e (hc2 as)
    split at h <;> cases h
    · rename_i q hq
      refine ⟨_, ?_, .inr (.inl ⟨_, rfl, rfl⟩)⟩
      rw [Sem.run_bind, eqGuard_run hc ha, Result.andThen_ok]
      have := nilEq_run hx hy hq ht
      have e : binOp .eql t c d = (do pure (.bool (← Op.equal t c d))) := by
        cases c <;> first | rfl | (exfalso; first | exact hc3 _ _ rfl | exact hc4 _ _ rfl | exact hc5 _ _ _ rfl | exact hc6 _ rfl)
      rw [e]; simp [this]
    · rename_i q hq
      refine ⟨_, ?_, .inr (.inl ⟨_, rfl, rfl⟩)⟩
      rw [Sem.run_bind, eqGuard_run hc ha, Result.andThen_ok]
      have := nilEq_run hx hy hq ht
      have e : binOp .neq t c d = (do pure (.bool (!(← Op.equal t c d)))) := by
        cases c <;> first | rfl | (exfalso; first | exact hc3 _ _ rfl | exact hc4 _ _ rfl | exact hc5 _ _ _ rfl | exact hc6 _ rfl)
      rw [e]; simp [this]
end Go.Ab
