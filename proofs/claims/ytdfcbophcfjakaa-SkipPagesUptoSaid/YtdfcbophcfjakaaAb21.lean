import Derived.Test.YtdfcbophcfjakaaAb20
set_option linter.unusedSimpArgs false
set_option linter.unusedVariables false
set_option linter.unusedSectionVars false
/- Contracts out of decoders; what one operation gives; slices that come in. -/
namespace Go.Ab
section
variable {P : Program} {A : Ann} {T : CallF} {f : FuncId} {base : Nat} {ops : Array Oper} {s : St} {d : Option Nat} {ty : TypeId} {ps : String} {af : Array Edge}
/-! one operation -/
def pureR (s : St) (r : Option V) : Option (V × List Nat × List AO × Nat) := r.map fun v => (v, s.toks, s.objs, s.low)
theorem pureR_some {v : V} : pureR s (some v) = some (v, s.toks, s.objs, s.low) := rfl
theorem pureR_congr {r r' : Option V} (h : r = r') : pureR s r = pureR s r' := by rw [h]
def lenV (P : Program) (t : TypeId) (x : V) : Option V := match P.underlying t, x with
  | some .string, .str s => some (.int .i64 s.size)
  | some (.slice _), .lst _ _ len => some (.int .i64 len)
  | some (.slice _), .nils => some (.int .i64 0)
  | some (.slice _), .ref _ _ _ len _ => some (.int .i64 len)
  | some (.array n _), _ => some (.int .i64 n)
  | some (.map _ _), .nilm => some (.int .i64 0)
  | _, _ => none
def loadV (P : Program) (t : TypeId) (objs : List AO) (a : V) : Option V := match a with
  | .ptr id ver off => match getObj objs id ver with | some cs => (getV P t cs off).map demote | none => none
  | .fptr cs off => (getV P t cs off).map demote
  | _ => none
def cutV (P : Program) (t : TypeId) (objs : List AO) (x : V) (lo hi mx : Option V) : Option V := match x with
  | .ptr id ver off => sliceA P t (.ptr id ver off) objs lo hi mx
  | v => sliceV P t v lo hi mx
def fieldV (P : Program) (t : TypeId) (x : V) (i : Nat) : Option V := match P.underlying t, x with
  | some (.struct fs), .agg cs => match fs[i]? with | some f => (getV P f.type cs f.offset).map demote | none => none
  | _, _ => none
def checkV (x : V) : Option V := match x with | .ptr id ver off => some (.ptr id ver off) | .fptr cs off => some (.fptr cs off) | .fn (.func f) a b => some (.fn (.func f) a b) | _ => none
def partV (x : V) (i : Nat) : Option V := match x with | .tup vs => (match vs[i]? with | some (.tup _) => none | r => r) | _ => none
def pickV (c a b : V) : Option V := match c with | .bool t => some (if t then a else b) | _ => none
def s2aV (P : Program) (t : TypeId) (x : V) : Option V := match P.underlying t, x with
  | some (.array n _), .lst _ cs len => if n ≤ len then some (.fptr cs 0) else none
  | some (.array n _), .ref id ver off len _ => if n ≤ len ∧ 0 < len then some (.ptr id ver off) else none
  | _, _ => none
theorem op_s2a {t : TypeId} {x : Operand} : opR P A T f base ops ⟨d, .sliceToArrayPointer t x, ty, ps, af, none⟩ s = pureR s (s2aV P t (opd s.env x)) := rfl
theorem op_move {x : Operand} : opR P A T f base ops ⟨d, .move x, ty, ps, af, none⟩ s = pureR s (some (opd s.env x)) := rfl
theorem op_assign {x : Operand} : opR P A T f base ops ⟨d, .assign x, ty, ps, af, none⟩ s = pureR s (some (opd s.env x)) := rfl
theorem op_pick {c a b : Operand} : opR P A T f base ops ⟨d, .pick c a b, ty, ps, af, none⟩ s = pureR s (pickV (opd s.env c) (opd s.env a) (opd s.env b)) := rfl
theorem op_bin {o : BinOp} {t u : TypeId} {x y : Operand} : opR P A T f base ops ⟨d, .binOp o t x y u, ty, ps, af, none⟩ s = pureR s (binV P o t (opd s.env x) (opd s.env y)) := rfl
theorem op_un {o : UnOp} {t : TypeId} {x : Operand} : opR P A T f base ops ⟨d, .unOp o t x, ty, ps, af, none⟩ s = pureR s (unV o (opd s.env x)) := rfl
theorem op_conv {a b : TypeId} {x : Operand} : opR P A T f base ops ⟨d, .convert a b x, ty, ps, af, none⟩ s = pureR s (convV P a b (opd s.env x)) := rfl
theorem op_extract {i : Nat} {x : Operand} : opR P A T f base ops ⟨d, .extract x i, ty, ps, af, none⟩ s = pureR s (partV (opd s.env x) i) := rfl
theorem op_check {x : Operand} : opR P A T f base ops ⟨d, .nilCheck x, ty, ps, af, none⟩ s = pureR s (checkV (opd s.env x)) := rfl
theorem op_fieldAddr {t : TypeId} {i : Nat} {x : Operand} : opR P A T f base ops ⟨d, .fieldAddr t x i, ty, ps, af, none⟩ s = pureR s (fieldAddrV P t (opd s.env x) i) := rfl
theorem op_field {t : TypeId} {i : Nat} {x : Operand} : opR P A T f base ops ⟨d, .field t x i, ty, ps, af, none⟩ s = pureR s (fieldV P t (opd s.env x) i) := rfl
theorem op_indexAddr {t : TypeId} {x i : Operand} : opR P A T f base ops ⟨d, .indexAddr t x i, ty, ps, af, none⟩ s = pureR s (indexV P t (opd s.env x) (opd s.env i)) := rfl
theorem op_len {t : TypeId} {x : Operand} : opR P A T f base ops ⟨d, .call ⟨.builtin .len, #[x], #[t]⟩, ty, ps, af, none⟩ s = pureR s (lenV P t (opd s.env x)) := rfl
/-- The objects that a load or a cut looks at. -/
def seeM (m : Md) (objs : List AO) : List AO := match m with | .frozen => objs | _ => []
theorem seeM_frozen {objs : List AO} : seeM .frozen objs = objs := rfl
theorem seeM_tok {objs : List AO} : seeM .tok objs = [] := rfl
theorem seeM_ref {objs : List AO} : seeM .ref objs = [] := rfl
theorem op_load {d : Nat} {t : TypeId} {x : Operand} : opR P A T f base ops ⟨some d, .load t x, ty, ps, af, none⟩ s = pureR s (loadV P t (seeM ((A.mode f d).headD .frozen) s.objs) (opd s.env x)) := by
  have hk : kindOf A f ⟨some d, .load t x, ty, ps, af, none⟩ = match (A.mode f d).headD .frozen with | .frozen => .read | _ => .pure := rfl
  simp only [opR, evalOp, hk]
  cases (A.mode f d).headD .frozen <;> rfl
theorem op_slice {d : Nat} {t : TypeId} {x : Operand} {lo hi mx : Option Operand} : opR P A T f base ops ⟨some d, .slice t x lo hi mx, ty, ps, af, none⟩ s = pureR s (cutV P t (seeM ((A.mode f d).headD .frozen) s.objs) (opd s.env x) (lo.map (opd s.env)) (hi.map (opd s.env)) (mx.map (opd s.env))) := by
  have hk : kindOf A f ⟨some d, .slice t x lo hi mx, ty, ps, af, none⟩ = match (A.mode f d).headD .frozen with | .frozen => .read | _ => .pure := rfl
  simp only [opR, evalOp, hk]
  cases (A.mode f d).headD .frozen <;> rfl
theorem opR_congr {o : Oper} : opR P A T f base ops o s = opR P A T f base ops o s := rfl
def guardR (g : Option V) (want : Bool) (s : St) (r : Option (V × List Nat × List AO × Nat)) : Option (V × List Nat × List AO × Nat) := match g with
  | some (.bool b) => if b = want then r else some (.undef, s.toks, s.objs, s.low)
  | some .undef => some (.undef, s.toks, s.objs, s.low)
  | _ => none
theorem guardR_congr {g g' : Option V} {want : Bool} {r : Option (V × List Nat × List AO × Nat)} (h : g = g') : guardR g want s r = guardR g' want s r := by rw [h]
theorem guard_tt {r : Option (V × List Nat × List AO × Nat)} : guardR (some (.bool true)) true s r = r := rfl
theorem guard_ff {r : Option (V × List Nat × List AO × Nat)} : guardR (some (.bool false)) false s r = r := rfl
theorem guard_tf {r : Option (V × List Nat × List AO × Nat)} : guardR (some (.bool true)) false s r = some (.undef, s.toks, s.objs, s.low) := rfl
theorem guard_ft {r : Option (V × List Nat × List AO × Nat)} : guardR (some (.bool false)) true s r = some (.undef, s.toks, s.objs, s.low) := rfl
theorem guard_u {want : Bool} {r : Option (V × List Nat × List AO × Nat)} : guardR (some .undef) want s r = some (.undef, s.toks, s.objs, s.low) := rfl
/-- The slot that a guard looks at. -/
def slotV (l : List Oper) (j : Nat) (env : Nat → V) : Option V := ((l[j]?).bind (·.dst)).map env
theorem op_guard {o : Op} {j : Nat} {want : Bool} {l : List Oper} : opR P A T f base l.toArray ⟨d, o, ty, ps, af, some (j, want)⟩ s = guardR (slotV l j s.env) want s (opR P A T f base l.toArray ⟨d, o, ty, ps, af, none⟩ s) := by
  have e : (l.toArray)[j]? = l[j]? := by simp
  unfold opR guardR slotV
  simp only [e]
  rfl
theorem slotV_zero {o : Oper} {l : List Oper} {env : Nat → V} : slotV (o :: l) 0 env = o.dst.map env := rfl
theorem slotV_succ {o : Oper} {l : List Oper} {j : Nat} {env : Nat → V} : slotV (o :: l) (j + 1) env = slotV l j env := rfl
/-! calls -/
def doRes (full : Bool) (base : Nat) (ms : List Md) (s : St) (r : Option (V × Option (List AO × Nat))) : Option (V × List Nat × List AO × Nat) := match full with
  | false => match r with
    | some (v, none) => ((bindRes [] [] [] v).map (·.1)).map fun v => (v, s.toks, s.objs, s.low)
    | _ => none
  | true => match r with
    | some (v, none) => (bindRes ms s.toks s.objs v).map fun r => (r.1, r.2.1, r.2.2, s.low)
    | some (v, some (objs', low')) => if low' < base ∧ clean base objs' = false then none else (bindRes ms s.toks objs' v).map fun r => (r.1, r.2.1, r.2.2, if low' < s.low then low' else s.low)
    | none => none
def isFull (A : Ann) (f : FuncId) (d : Option Nat) (g : FuncId) : Bool := A.mutf g || (match d with | some d => (A.mode f d).any (· != .frozen) | none => false)
/-- What a calm call lets through. -/
def calmR (b : Bool) (r : Option (V × Option (List AO × Nat))) : Option (V × Option (List AO × Nat)) := match b, r with
  | true, some (_, some _) => none
  | _, r => r
theorem calmR_none {b : Bool} {v : V} : calmR b (some (v, none)) = some (v, none) := by cases b <;> rfl
theorem calmR_false {r : Option (V × Option (List AO × Nat))} : calmR false r = r := by cases r with | none => rfl | some p => obtain ⟨v, r⟩ := p; cases r <;> rfl
theorem calmR_congr {b b' : Bool} {r r' : Option (V × Option (List AO × Nat))} (h : b = b') (h2 : r = r') : calmR b r = calmR b' r' := by rw [h, h2]
theorem op_call {g : FuncId} {l : List Operand} {tys : Array TypeId} : opR P A T f base ops ⟨d, .call ⟨.value (.func g), l.toArray, tys⟩, ty, ps, af, none⟩ s = doRes (isFull A f d g) base (A.modes f d) s (calmR (isCalm A f d g) (T g (l.map fun x => demote (opd s.env x)) s.objs)) := by
  have hl : (l.toArray).toList = l := by simp
  have hk : kindOf A f ⟨d, .call ⟨.value (.func g), l.toArray, tys⟩, ty, ps, af, none⟩ = if isFull A f d g = true then (if isCalm A f d g = true then .calm else .full) else .readCall := rfl
  have ht : target (opd s.env) ⟨.value (.func g), l.toArray, tys⟩ = some (g, l.map fun x => demote (opd s.env x)) := by simp [target, opd, hl]
  simp only [opR, evalOp, hk]
  cases hf : isFull A f d g with
  | true =>
    cases hcm : isCalm A f d g with
    | false =>
      simp only [if_true, if_neg (show ¬ (false = true) by simp), fullCall, ht, doRes, calmR_false]
      rfl
    | true =>
      have hm : (A.modes f d).all (· != .ref) = true := by
        unfold isCalm at hcm
        cases d with
        | none => simp at hcm
        | some d => simp only [Bool.and_eq_true] at hcm; exact hcm.2.2
      simp only [if_true, calmCall, ht, doRes]
      rw [if_pos hm]
      cases T g (l.map fun x => demote (opd s.env x)) s.objs with
      | none => rfl
      | some p =>
        obtain ⟨v, r⟩ := p
        cases r with
        | some _ => rfl
        | none =>
          rw [calmR_none]
          simp only
          cases hb : bindRes (A.modes f d) s.toks s.objs v with
          | none => rfl
          | some r0 =>
            have e := bindRes_calm hm hb
            simp only [Option.map_some, e]
  | false =>
    have hcm : isCalm A f d g = false := by
      unfold isFull at hf
      unfold isCalm
      rw [Bool.or_eq_false_iff] at hf
      cases d with
      | none => simp
      | some d =>
        have h2 := hf.2
        simp only [List.any_eq_false] at h2
        have : (A.mode f d).any (· == .tok) = false := by
          rw [List.any_eq_false]
          intro m hm q
          have := h2 m hm
          have q2 : m = .tok := by simpa using q
          rw [q2] at this
          exact this rfl
        simp [this]
    rw [hcm, calmR_false]
    simp only [if_neg (show ¬ (false = true) by simp), readCall, ht, doRes]
    cases T g (l.map fun x => demote (opd s.env x)) s.objs with
    | none => rfl
    | some p => obtain ⟨v, r⟩ := p; cases r <;> rfl
theorem doRes_congr {full full' : Bool} {ms ms' : List Md} {r r' : Option (V × Option (List AO × Nat))} (h : full = full') (h2 : ms = ms') (h3 : r = r') : doRes full base ms s r = doRes full' base ms' s r' := by rw [h, h2, h3]
theorem doRes_read {v : V} {ms : List Md} : doRes false base ms s (some (v, none)) = ((bindRes [] [] [] v).map (·.1)).map fun v => (v, s.toks, s.objs, s.low) := rfl
theorem doRes_full {v : V} {ms : List Md} : doRes true base ms s (some (v, none)) = (bindRes ms s.toks s.objs v).map fun r => (r.1, r.2.1, r.2.2, s.low) := rfl
theorem doRes_mut {v : V} {ms : List Md} {objs' : List AO} {low' : Nat} : doRes true base ms s (some (v, some (objs', low'))) = if low' < base ∧ clean base objs' = false then none else (bindRes ms s.toks objs' v).map fun r => (r.1, r.2.1, r.2.2, if low' < s.low then low' else s.low) := rfl
/-! appends and what else is held as told -/
def held (m : Md) (a b c : Option (V × List Nat × List AO × Nat)) : Option (V × List Nat × List AO × Nat) := match m with | .tok => a | .ref => b | .frozen => c
theorem held_congr {m m' : Md} {a b c : Option (V × List Nat × List AO × Nat)} (h : m = m') : held m a b c = held m' a b c := by rw [h]
theorem held_tok {a b c : Option (V × List Nat × List AO × Nat)} : held .tok a b c = a := rfl
theorem held_ref {a b c : Option (V × List Nat × List AO × Nat)} : held .ref a b c = b := rfl
theorem held_frozen {a b c : Option (V × List Nat × List AO × Nat)} : held .frozen a b c = c := rfl
def tokR (s : St) (r : Option (V × List Nat)) : Option (V × List Nat × List AO × Nat) := r.map fun r => (r.1, r.2, s.objs, s.low)
def actR (s : St) (r : Option (V × List AO × Nat)) : Option (V × List Nat × List AO × Nat) := r.map fun r => (r.1, s.toks, r.2.1, r.2.2)
theorem tokR_some {v : V} {tk : List Nat} : tokR s (some (v, tk)) = some (v, tk, s.objs, s.low) := rfl
theorem actR_some {v : V} {ob : List AO} {lo : Nat} : actR s (some (v, ob, lo)) = some (v, s.toks, ob, lo) := rfl
def appT (P : Program) (t t2 : TypeId) (objs : List AO) (toks : List Nat) (x y : V) : Option (V × List Nat) := match P.underlying t, P.underlying t2 with
  | some (.slice e), some d => match sizeOf? P e, zeroV P e with
    | some n, some _ =>
      match srcOf d objs n y with
      | none => none
      | some ys =>
        if n = 0 ∨ ys.length % n ≠ 0 then none else
        match x with
        | .nils => if fits P e (ys.length / n) then (if ys = [] then some (.nils, toks) else some (.lst (.tok toks.length n) ys (ys.length / n), toks ++ [ys.length])) else none
        | .lst (.tok k n') cs len =>
          if n' = n ∧ toks[k]? = some cs.length ∧ cs.length = len * n ∧ fits P e (len + ys.length / n) then some (.lst (.tok k n) (cs ++ ys) (len + ys.length / n), toks.set k (cs.length + ys.length)) else none
        | _ => none
    | _, _ => none
  | _, _ => none
def appO (P : Program) (t t2 : TypeId) (base : Nat) (objs : List AO) (low : Nat) (x y : V) : Option (V × List AO × Nat) := match P.underlying t, P.underlying t2 with
  | some (.slice e), some d => match sizeOf? P e, zeroV P e with
    | some n, some _ =>
      match srcOf d objs n y with
      | none => none
      | some ys =>
        if n = 0 ∨ ys.length % n ≠ 0 then none else
        match x with
        | .nils => if fits P e (ys.length / n) then (if ys = [] then some (.nils, objs, low) else some (.ref objs.length 0 0 (ys.length / n) n, objs ++ [.cells ys 0], low)) else none
        | .ref id ver 0 len n' => match getObj objs id ver with
          | some cs => if n' = n ∧ cs.length = len * n ∧ fits P e (len + ys.length / n) ∧ (id < base → norefs base ys = true) then
              some (.ref id (ver + 1) 0 (len + ys.length / n) n, objs.set id (.cells (cs ++ ys) (ver + 1)), if id < low then id else low) else none
          | none => none
        | _ => none
    | _, _ => none
  | _, _ => none
theorem op_append {x y : Operand} {t t2 : TypeId} {d : Nat} : opR P A T f base ops ⟨some d, .call ⟨.builtin .append, #[x, y], #[t, t2]⟩, ty, ps, af, none⟩ s =
    held ((A.mode f d).headD .frozen) (tokR s (appT P t t2 s.objs s.toks (opd s.env x) (opd s.env y))) (actR s (appO P t t2 base s.objs s.low (opd s.env x) (opd s.env y))) (tokR s (appT P t t2 s.objs s.toks (opd s.env x) (opd s.env y))) := by
  have hk : kindOf A f ⟨some d, .call ⟨.builtin .append, #[x, y], #[t, t2]⟩, ty, ps, af, none⟩ = match (A.mode f d).headD .frozen with | .ref => .act | _ => .tok := rfl
  simp only [opR, evalOp, hk]
  cases (A.mode f d).headD .frozen <;> rfl
def litP (P : Program) (t : TypeId) (n : Nat) (parts : List (Nat × V)) : Option V := (listV P t n parts).map fun r => .lst .lit r.1 n
def litT (P : Program) (t : TypeId) (n : Nat) (parts : List (Nat × V)) (toks : List Nat) : Option (V × List Nat) := match listV P t n parts with
  | some r => if r.1.length = n * r.2 then some (.lst (.tok toks.length r.2) r.1 n, toks ++ [r.1.length]) else none
  | none => none
def litO (P : Program) (t : TypeId) (n : Nat) (parts : List (Nat × V)) (objs : List AO) (low : Nat) : Option (V × List AO × Nat) := match listV P t n parts with
  | some r => if r.1.length = n * r.2 then some (.ref objs.length 0 0 n r.2, objs ++ [.cells r.1 0], low) else none
  | none => none
theorem op_lit {l : List (Nat × Operand)} {t : TypeId} {n d : Nat} : opR P A T f base ops ⟨some d, .buildSlice t n l.toArray, ty, ps, af, none⟩ s =
    held ((A.mode f d).headD .frozen) (tokR s (litT P t n (l.map fun p => (p.1, demote (opd s.env p.2))) s.toks)) (actR s (litO P t n (l.map fun p => (p.1, demote (opd s.env p.2))) s.objs s.low)) (pureR s (litP P t n (l.map fun p => (p.1, demote (opd s.env p.2))))) := by
  have hk : kindOf A f ⟨some d, .buildSlice t n l.toArray, ty, ps, af, none⟩ = match (A.mode f d).headD .frozen with | .tok => .tok | .ref => .act | .frozen => .pure := rfl
  simp only [opR, evalOp, hk]
  cases (A.mode f d).headD .frozen <;> simp only [pureV, tokV, actV, held, tokR, actR, pureR, litT, litO, litP] <;> rfl
def makeT (P : Program) (t : TypeId) (l c : V) (toks : List Nat) : Option (V × List Nat) := match P.underlying t, l, c with
  | some (.slice e), .int _ 0, .int _ b => match sizeOf? P e, zeroV P e with
    | some n, some _ => if 0 ≤ b ∧ b < 140737488355328 ∧ fits P e b.toNat ∧ 0 < n then some (.lst (.tok toks.length n) [] 0, toks ++ [0]) else none
    | _, _ => none
  | _, _, _ => none
def makeO (P : Program) (t : TypeId) (l c : V) (objs : List AO) (low : Nat) : Option (V × List AO × Nat) := match P.underlying t, l, c with
  | some (.slice e), .int _ a, .int _ b => match sizeOf? P e, zeroV P e with
    | some n, some z => if 0 ≤ a ∧ a ≤ b ∧ b < 140737488355328 ∧ fits P e b.toNat ∧ 0 < n then some (.ref objs.length 0 0 a.toNat n, objs ++ [.cells (zeros z a.toNat) 0], low) else none
    | _, _ => none
  | _, _, _ => none
theorem op_make {x y : Operand} {t : TypeId} {d : Nat} : opR P A T f base ops ⟨some d, .makeSlice t x y, ty, ps, af, none⟩ s =
    held ((A.mode f d).headD .frozen) (tokR s (makeT P t (opd s.env x) (opd s.env y) s.toks)) (actR s (makeO P t (opd s.env x) (opd s.env y) s.objs s.low)) (actR s (makeO P t (opd s.env x) (opd s.env y) s.objs s.low)) := by
  have hk : kindOf A f ⟨some d, .makeSlice t x y, ty, ps, af, none⟩ = match (A.mode f d).headD .frozen with | .tok => .tok | _ => .act := rfl
  simp only [opR, evalOp, hk]
  cases (A.mode f d).headD .frozen <;> rfl
def copO (P : Program) (t t2 : TypeId) (base : Nat) (objs : List AO) (low : Nat) (x y : V) : Option (V × List AO × Nat) := match P.underlying t, P.underlying t2 with
  | some (.slice e), some d => match sizeOf? P e with
    | some n => copyV d n x y base objs low
    | none => none
  | _, _ => none
theorem op_copy {x y : Operand} {t t2 : TypeId} : opR P A T f base ops ⟨d, .call ⟨.builtin .copy, #[x, y], #[t, t2]⟩, ty, ps, af, none⟩ s = actR s (copO P t t2 base s.objs s.low (opd s.env x) (opd s.env y)) := rfl
def allocO (P : Program) (t : TypeId) (objs : List AO) (low : Nat) : Option (V × List AO × Nat) := (zeroV P t).map fun z => (.ptr objs.length 0 0, objs ++ [.cells z 0], low)
theorem op_alloc {t : TypeId} : opR P A T f base ops ⟨d, .alloc t, ty, ps, af, none⟩ s = actR s (allocO P t s.objs s.low) := rfl
def boxO (x : V) (objs : List AO) (low : Nat) : Option (V × List AO × Nat) := if isDef x = true then some (.ptr objs.length 0 0, objs ++ [.cells (cellsOf x) 0], low) else none
theorem op_box {t : TypeId} {x : Operand} : opR P A T f base ops ⟨d, .box t x, ty, ps, af, none⟩ s = actR s (boxO (demote (opd s.env x)) s.objs s.low) := rfl
def storeO (P : Program) (t : TypeId) (base : Nat) (objs : List AO) (low : Nat) (a : V) (vs : List V) : Option (V × List AO × Nat) := match a with
  | .ptr id ver off => match getObj objs id ver, sizeOf? P t with
    | some cs, some n => if vs.length = n ∧ off + n ≤ cs.length ∧ vs.all oneCell = true ∧ (id < base → norefs base vs = true) then some (.undef, objs.set id (.cells (setCells cs off vs) ver), if id < low then id else low) else none
    | _, _ => none
  | _ => none
theorem op_store {t : TypeId} {x a : Operand} : opR P A T f base ops ⟨d, .store t a x, ty, ps, af, none⟩ s = actR s (storeO P t base s.objs s.low (opd s.env a) (cellsOf (demote (opd s.env x)))) := rfl
theorem op_lookup {t : TypeId} {x i : Operand} {ok : Bool} : opR P A T f base ops ⟨d, .lookup t x i ok, ty, ps, af, none⟩ s = pureR s (lookupV P t (opd s.env x) (opd s.env i) ok s.objs) := rfl
def mapO (P : Program) (t : TypeId) (r : Option V) (objs : List AO) (low : Nat) : Option (V × List AO × Nat) := if isMapT P t = true ∧ r.all isIntV = true then some (.map objs.length, objs ++ [.map []], low) else none
theorem op_makeMap {t : TypeId} {r : Option Operand} : opR P A T f base ops ⟨d, .makeMap t r, ty, ps, af, none⟩ s = actR s (mapO P t (r.map (opd s.env)) s.objs s.low) := rfl
theorem op_update {t : TypeId} {m k x : Operand} : opR P A T f base ops ⟨d, .mapUpdate t m k x, ty, ps, af, none⟩ s = actR s (updateV P t (opd s.env m) (opd s.env k) (demote (opd s.env x)) base s.objs s.low) := rfl
def buildP (P : Program) (t : TypeId) (parts : List (Nat × V)) : Option V := if sized P t = true then match zeroV P t with | some z => (fillV (placeOf P t) z parts).map .agg | none => none else none
theorem op_build {l : List (Nat × Operand)} {t : TypeId} : opR P A T f base ops ⟨d, .build t l.toArray, ty, ps, af, none⟩ s = pureR s (buildP P t (l.map fun p => (p.1, demote (opd s.env p.2)))) := rfl
end
/-! lists by place -/
def nth {α : Type} [Inhabited α] (l : List α) (i : Nat) : α := l.getD i default
section
variable {α β : Type} [Inhabited α] [Inhabited β]
theorem nth_lt {l : List α} {i : Nat} (h : i < l.length) : nth l i = l[i]'h := by simp [nth, h]
theorem take_nth {l : List α} {i : Nat} (h : i < l.length) : l.take (i + 1) = l.take i ++ [nth l i] := by
  rw [nth_lt h, List.take_add_one, List.getElem?_eq_getElem h, Option.toList_some]
theorem drop_nth {l : List α} {i : Nat} (h : i < l.length) : l.drop i = nth l i :: l.drop (i + 1) := by rw [nth_lt h, List.drop_eq_getElem_cons h]
theorem get_nth {l : List α} {i : Nat} (h : i < l.length) : l[i]? = some (nth l i) := by rw [nth_lt h, List.getElem?_eq_getElem h]
theorem map_nth {g : α → V} {l : List α} {i : Nat} (h : i < l.length) : (l.map g)[i]? = some (g (nth l i)) := by rw [List.getElem?_map, get_nth h]; rfl
theorem nth_map {g : α → β} {l : List α} {i : Nat} (h : i < l.length) : nth (l.map g) i = g (nth l i) := by rw [nth_lt (by simpa using h), nth_lt h, List.getElem_map]
theorem nth_take {l : List α} {i n : Nat} (h : i < n) : nth (l.take n) i = nth l i := by simp [nth, List.getElem?_take, h]
theorem nth_drop {l : List α} {i n : Nat} : nth (l.drop n) i = nth l (n + i) := by simp [nth]
theorem nth_app_l {l m : List α} {i : Nat} (h : i < l.length) : nth (l ++ m) i = nth l i := by simp [nth, List.getElem?_append, h]
theorem nth_app_r {l m : List α} {i : Nat} (h : l.length ≤ i) : nth (l ++ m) i = nth m (i - l.length) := by simp [nth, List.getElem?_append, Nat.not_lt.2 h]
theorem nth_cons_zero {a : α} {l : List α} : nth (a :: l) 0 = a := rfl
theorem nth_cons_succ {a : α} {l : List α} {i : Nat} : nth (a :: l) (i + 1) = nth l i := by simp [nth]
theorem ext_nth {l m : List α} (h : l.length = m.length) (k : ∀ i, i < l.length → nth l i = nth m i) : l = m :=
  List.ext_getElem h fun i h1 h2 => by have := k i h1; rwa [nth_lt h1, nth_lt h2] at this
theorem nth_mem {l : List α} {i : Nat} (h : i < l.length) : nth l i ∈ l := by rw [nth_lt h]; exact List.getElem_mem h
end
/-! decoders, and contracts out of them -/
def ofInt (k : IntKind) : V → Option Int | .int k' n => if k' = k then some n else none | _ => none
theorem ofInt_inv {k : IntKind} {v : V} {n : Int} (h : ofInt k v = some n) : v = .int k n := by
  unfold ofInt at h
  split at h
  · split at h
    · rename_i e; cases h; rw [e]
    · cases h
  · cases h
theorem ofInt_int {k : IntKind} {n : Int} : ofInt k (.int k n) = some n := by simp [ofInt]
def ofBool : V → Option Bool | .bool b => some b | _ => none
theorem ofBool_inv {v : V} {b : Bool} (h : ofBool v = some b) : v = .bool b := by
  unfold ofBool at h
  split at h <;> cases h
  rfl
theorem ofBool_bool {b : Bool} : ofBool (.bool b) = some b := rfl
def ofAny : V → Option V := some
def bnd {α : Type} (n b : Nat) (r : Option α) : Option α := if n < b then r else none
theorem bnd_pos {α : Type} {n b : Nat} {r : Option α} (h : n < b) : bnd n b r = r := if_pos h
theorem bnd_inv {α : Type} {n b : Nat} {r : Option α} {x : α} (h : bnd n b r = some x) : n < b ∧ r = some x := by
  unfold bnd at h
  split at h
  · exact ⟨by assumption, h⟩
  · cases h
section
variable {α β γ δ : Type} {d1 : V → Option α} {d2 : V → Option β} {d3 : V → Option γ} {d4 : V → Option δ}
abbrev Res := V × Option (List AO × Nat)
def con0 (F : List AO → Option Res) : Spec := fun args objs => match args with | [] => F objs | _ => none
def con1 (d1 : V → Option α) (F : α → List AO → Option Res) : Spec := fun args objs => match args with | [v] => (d1 v).bind fun a => F a objs | _ => none
def con2 (d1 : V → Option α) (d2 : V → Option β) (F : α → β → List AO → Option Res) : Spec := fun args objs => match args with | [v, w] => (d1 v).bind fun a => (d2 w).bind fun b => F a b objs | _ => none
def con3 (d1 : V → Option α) (d2 : V → Option β) (d3 : V → Option γ) (F : α → β → γ → List AO → Option Res) : Spec := fun args objs => match args with | [v, w, u] => (d1 v).bind fun a => (d2 w).bind fun b => (d3 u).bind fun c => F a b c objs | _ => none
def con4 (d1 : V → Option α) (d2 : V → Option β) (d3 : V → Option γ) (d4 : V → Option δ) (F : α → β → γ → δ → List AO → Option Res) : Spec := fun args objs => match args with | [v, w, u, x] => (d1 v).bind fun a => (d2 w).bind fun b => (d3 u).bind fun c => (d4 x).bind fun d => F a b c d objs | _ => none
theorem con0_app {F : List AO → Option Res} {objs : List AO} : con0 F [] objs = F objs := rfl
theorem con1_app {F : α → List AO → Option Res} {v : V} {objs : List AO} : con1 d1 F [v] objs = (d1 v).bind fun a => F a objs := rfl
theorem con2_app {F : α → β → List AO → Option Res} {v w : V} {objs : List AO} : con2 d1 d2 F [v, w] objs = (d1 v).bind fun a => (d2 w).bind fun b => F a b objs := rfl
theorem con3_app {F : α → β → γ → List AO → Option Res} {v w u : V} {objs : List AO} : con3 d1 d2 d3 F [v, w, u] objs = (d1 v).bind fun a => (d2 w).bind fun b => (d3 u).bind fun c => F a b c objs := rfl
theorem con4_app {F : α → β → γ → δ → List AO → Option Res} {v w u x : V} {objs : List AO} : con4 d1 d2 d3 d4 F [v, w, u, x] objs = (d1 v).bind fun a => (d2 w).bind fun b => (d3 u).bind fun c => (d4 x).bind fun d => F a b c d objs := rfl
theorem con0_inv {F : List AO → Option Res} {args : List V} {objs : List AO} {r : Res} (h : con0 F args objs = some r) : args = [] ∧ F objs = some r := by
  unfold con0 at h; split at h
  · exact ⟨rfl, h⟩
  · cases h
theorem con1_inv {F : α → List AO → Option Res} {args : List V} {objs : List AO} {r : Res} (h : con1 d1 F args objs = some r) : ∃ v a, args = [v] ∧ d1 v = some a ∧ F a objs = some r := by
  unfold con1 at h; split at h
  · obtain ⟨a, ha, h⟩ := Option.bind_eq_some_iff.1 h
    exact ⟨_, a, rfl, ha, h⟩
  · cases h
theorem con2_inv {F : α → β → List AO → Option Res} {args : List V} {objs : List AO} {r : Res} (h : con2 d1 d2 F args objs = some r) : ∃ v w a b, args = [v, w] ∧ d1 v = some a ∧ d2 w = some b ∧ F a b objs = some r := by
  unfold con2 at h; split at h
  · obtain ⟨a, ha, h⟩ := Option.bind_eq_some_iff.1 h
    obtain ⟨b, hb, h⟩ := Option.bind_eq_some_iff.1 h
    exact ⟨_, _, a, b, rfl, ha, hb, h⟩
  · cases h
theorem con3_inv {F : α → β → γ → List AO → Option Res} {args : List V} {objs : List AO} {r : Res} (h : con3 d1 d2 d3 F args objs = some r) : ∃ v w u a b c, args = [v, w, u] ∧ d1 v = some a ∧ d2 w = some b ∧ d3 u = some c ∧ F a b c objs = some r := by
  unfold con3 at h; split at h
  · obtain ⟨a, ha, h⟩ := Option.bind_eq_some_iff.1 h
    obtain ⟨b, hb, h⟩ := Option.bind_eq_some_iff.1 h
    obtain ⟨c, hc, h⟩ := Option.bind_eq_some_iff.1 h
    exact ⟨_, _, _, a, b, c, rfl, ha, hb, hc, h⟩
  · cases h
theorem con4_inv {F : α → β → γ → δ → List AO → Option Res} {args : List V} {objs : List AO} {r : Res} (h : con4 d1 d2 d3 d4 F args objs = some r) : ∃ v w u x a b c d, args = [v, w, u, x] ∧ d1 v = some a ∧ d2 w = some b ∧ d3 u = some c ∧ d4 x = some d ∧ F a b c d objs = some r := by
  unfold con4 at h; split at h
  · obtain ⟨a, ha, h⟩ := Option.bind_eq_some_iff.1 h
    obtain ⟨b, hb, h⟩ := Option.bind_eq_some_iff.1 h
    obtain ⟨c, hc, h⟩ := Option.bind_eq_some_iff.1 h
    obtain ⟨d, hd, h⟩ := Option.bind_eq_some_iff.1 h
    exact ⟨_, _, _, _, a, b, c, d, rfl, ha, hb, hc, hd, h⟩
  · cases h
end
/-! lists of what is decoded -/
section
variable {α : Type} [Inhabited α] {d : V → Option α}
def ofCells (d : V → Option α) : List V → Option (List α)
  | [] => some []
  | v :: vs => match d v, ofCells d vs with | some a, some as => some (a :: as) | _, _ => none
def ofList (d : V → Option α) : V → Option (List α)
  | .nils => some []
  | .lst .frozen cs len => if len = cs.length then ofCells d cs else none
  | _ => none
theorem ofCells_len : ∀ {cs : List V} {ls : List α}, ofCells d cs = some ls → ls.length = cs.length ∧ ∀ i, i < ls.length → ∃ c, cs[i]? = some c ∧ d c = some (nth ls i)
  | [], ls, h => by simp [ofCells] at h; subst h; exact ⟨rfl, fun i h => absurd h (by simp)⟩
  | v :: vs, ls, h => by
    simp only [ofCells] at h
    split at h
    · rename_i a as h1 h2
      cases h
      obtain ⟨g1, g2⟩ := ofCells_len h2
      refine ⟨by simp [g1], fun i hi => ?_⟩
      cases i with
      | zero => exact ⟨v, rfl, h1⟩
      | succ i => obtain ⟨c, c1, c2⟩ := g2 i (by simpa using hi); exact ⟨c, by simpa using c1, by rw [nth_cons_succ]; exact c2⟩
    · cases h
theorem ofCells_nil : ofCells d [] = some [] := rfl
theorem ofCells_cons {v : V} {vs : List V} {a : α} {as : List α} (h1 : d v = some a) (h2 : ofCells d vs = some as) : ofCells d (v :: vs) = some (a :: as) := by simp [ofCells, h1, h2]
theorem ofCells_map {β : Type} {f : β → V} {g : β → α} (h : ∀ b, d (f b) = some (g b)) : ∀ l : List β, ofCells d (l.map f) = some (l.map g)
  | [] => rfl
  | b :: l => by simp only [List.map_cons]; exact ofCells_cons (h b) (ofCells_map h l)
theorem ofCells_app : ∀ {cs ds : List V} {ls ms : List α}, ofCells d cs = some ls → ofCells d ds = some ms → ofCells d (cs ++ ds) = some (ls ++ ms)
  | [], ds, ls, ms, h, k => by simp [ofCells] at h; subst h; exact k
  | v :: vs, ds, ls, ms, h, k => by
    simp only [ofCells] at h
    split at h
    · rename_i a as h1 h2
      cases h
      exact ofCells_cons h1 (ofCells_app h2 k)
    · cases h
end
def look : List (Nat × List Md) → Nat → List Md
  | [], _ => []
  | (k, m) :: l, d => if k = d then m else look l d
/-- How a function's results are held: by slot; as rows, as objects; otherwise. -/
def annOf (tok ref : List Nat) (other : List (Nat × List Md)) (keep : Bool) (mu : List Nat) (th : Bool := false) (st : Bool := false) : Ann := ⟨fun _ d => if tok.contains d then [.tok] else if ref.contains d then [.ref] else look other d, fun _ => keep, fun g => mu.contains g, fun _ => th, fun _ => st⟩
theorem annOf_mode {tok ref : List Nat} {other : List (Nat × List Md)} {keep : Bool} {mu : List Nat} {th : Bool} {st : Bool} {f d : Nat} : (annOf tok ref other keep mu th st).mode f d = if tok.contains d then [.tok] else if ref.contains d then [.ref] else look other d := rfl
theorem annOf_keep {tok ref : List Nat} {other : List (Nat × List Md)} {keep : Bool} {mu : List Nat} {th : Bool} {st : Bool} {f : Nat} : (annOf tok ref other keep mu th st).keep f = keep := rfl
theorem annOf_mutf {tok ref : List Nat} {other : List (Nat × List Md)} {keep : Bool} {mu : List Nat} {th : Bool} {st : Bool} {g : Nat} : (annOf tok ref other keep mu th st).mutf g = mu.contains g := rfl
theorem annOf_thaw {tok ref : List Nat} {other : List (Nat × List Md)} {keep : Bool} {mu : List Nat} {th : Bool} {st : Bool} {g : Nat} : (annOf tok ref other keep mu th st).thaw g = th := rfl
theorem annOf_still {tok ref : List Nat} {other : List (Nat × List Md)} {keep : Bool} {mu : List Nat} {th st : Bool} {g : Nat} : (annOf tok ref other keep mu th st).still g = st := rfl
theorem thawAll_no {objs : List AO} {vs : List V} : thawAll false objs vs = vs := rfl
theorem put_get {e : Nat → V} {d t : Nat} {v : V} : Ab.put e (some d) v t = if t = d then v else e t := rfl
theorem put_none {e : Nat → V} {v : V} : Ab.put e none v = e := rfl
theorem opd_tmp {e : Nat → V} {t : Nat} : opd e (.tmp t) = e t := rfl
theorem opd_const {e : Nat → V} {v : Value} : opd e (.const v) = ofConst v := rfl
theorem entry_get {args : List V} {i : Nat} : entryEnv args i = args.getD i .undef := rfl
theorem demL {k : LK} {cs : List V} {n : Nat} : demote (.lst k cs n) = .lst .frozen cs n := rfl
theorem demI {k : IntKind} {n : Int} : demote (.int k n) = .int k n := rfl
theorem demB {b : Bool} : demote (.bool b) = .bool b := rfl
theorem demN : demote .nils = .nils := rfl
theorem demA {cs : List V} : demote (.agg cs) = .agg cs := rfl
theorem demP {i a o : Nat} : demote (.ptr i a o) = .ptr i a o := rfl
theorem demR {i a o n e : Nat} : demote (.ref i a o n e) = .ref i a o n e := rfl
theorem demS {b : ByteArray} : demote (.str b) = .str b := rfl
theorem demNp : demote .nilp = .nilp := rfl
theorem demF {cs : List V} {o : Nat} : demote (.fptr cs o) = .fptr cs o := rfl
theorem demNi : demote .nili = .nili := rfl
theorem demNf : demote .nilf = .nilf := rfl
theorem demNm : demote .nilm = .nilm := rfl
theorem demM {i : Nat} : demote (.map i) = .map i := rfl
theorem demFn {g : Fn} {a b : List V} : demote (.fn g a b) = .fn g a b := rfl
theorem demIf {t : TypeId} {v : V} : demote (.iface t v) = .iface t v := rfl
theorem demU : demote .undef = .undef := rfl
/-! slices that come in -/
def Sl (v : V) (cs : List V) (len : Nat) : Prop := v = .lst .frozen cs len ∨ (v = .nils ∧ cs = [] ∧ len = 0)
section
variable {P : Program} {v : V} {cs : List V} {len : Nat} {t e : TypeId} {n : Nat}
theorem Sl.dem (h : Sl v cs len) : demote v = v := by rcases h with rfl | ⟨rfl, _, _⟩ <;> rfl
theorem Sl.size (h : Sl v cs len) (hu : P.underlying t = some (.slice e)) : lenV P t v = some (.int .i64 len) := by rcases h with rfl | ⟨rfl, _, rfl⟩ <;> simp [lenV, hu]
theorem Sl.idx (h : Sl v cs len) (hu : P.underlying t = some (.slice e)) (hz : sizeOf? P e = some n) (k : IntKind) (i : Int) (h0 : 0 ≤ i) (h1 : i < len) : indexV P t v (.int k i) = some (.fptr cs (i.toNat * n)) := by
  rcases h with rfl | ⟨rfl, _, rfl⟩
  · simp [indexV, hu, hz, h0, h1]
  · exact absurd h1 (by simp; omega)
theorem Sl.src (h : Sl v cs len) (hl : cs.length = len * n) (h1 : cs.all oneCell = true) (objs : List AO) (e' : TypeId) : srcOf (.slice e') objs n v = some cs := by
  rcases h with rfl | ⟨rfl, rfl, rfl⟩
  · simp only [srcOf, rowOf]; rw [if_pos hl]; simp only; rw [if_pos h1]
  · simp [srcOf, rowOf]
theorem Sl.cut (h : Sl v cs len) (hu : P.underlying t = some (.slice e)) (hz : sizeOf? P e = some n) (objs : List AO) (lo hi : Option V) (a b : Nat) (ha : boundV lo 0 = some a) (hb : boundV hi len = some b) (hab : a ≤ b) (hl : b ≤ len) :
    ∃ w, cutV P t objs v lo hi none = some w ∧ Sl w ((cs.take (b * n)).drop (a * n)) (b - a) := by
  rcases h with rfl | ⟨rfl, rfl, rfl⟩
  · exact ⟨_, by simp [cutV, sliceV, hu, hz, ha, hb, hab, hl], .inl rfl⟩
  · obtain rfl : b = 0 := by omega
    obtain rfl : a = 0 := by omega
    exact ⟨.nils, by simp [cutV, sliceV, hu, hz, ha, hb], .inr ⟨rfl, by simp, rfl⟩⟩
theorem Sl.noref (h : Sl v cs len) {b : Nat} (hn : norefs b cs = true) : Ab.noref b v = true := by rcases h with rfl | ⟨rfl, _, _⟩ <;> simp [Ab.noref, hn]
theorem Sl.isDef (h : Sl v cs len) : Ab.isDef v = true := by rcases h with rfl | ⟨rfl, _, _⟩ <;> rfl
theorem Sl.cells (h : Sl v cs len) : cellsOf v = [v] := by rcases h with rfl | ⟨rfl, _, _⟩ <;> rfl
theorem Sl.one (h : Sl v cs len) : oneCell v = true := by rcases h with rfl | ⟨rfl, _, _⟩ <;> rfl
end
theorem ofList_inv {α : Type} [Inhabited α] {d : V → Option α} {v : V} {ls : List α} (h : ofList d v = some ls) : ∃ cs, Sl v cs ls.length ∧ cs.length = ls.length ∧ ∀ i, i < ls.length → ∃ c, cs[i]? = some c ∧ (∀ h : i < cs.length, cs[i]'h = c) ∧ d c = some (nth ls i) := by
  unfold ofList at h
  split at h
  · cases h; exact ⟨[], .inr ⟨rfl, rfl, rfl⟩, rfl, fun i h => absurd h (by simp)⟩
  · split at h
    · rename_i cs len hl
      obtain ⟨g1, g2⟩ := ofCells_len h
      exact ⟨cs, .inl (by rw [hl, g1]), g1.symm, fun i hi => by obtain ⟨c, h1, h2⟩ := g2 i hi; exact ⟨c, h1, fun h => by simpa [h] using h1, h2⟩⟩
    · cases h
  · cases h
theorem ofList_lst {α : Type} [Inhabited α] {d : V → Option α} {cs : List V} {ls : List α} {n : Nat} (h : ofCells d cs = some ls) (hn : n = cs.length) : ofList d (.lst .frozen cs n) = some ls := by simp [ofList, h, hn]
/-! whole numbers -/
theorem wrap_small {n : Int} (h0 : -9223372036854775808 ≤ n) (h1 : n < 9223372036854775808) : IntKind.i64.wrap n = n := by
  show (if (true && decide (n % 18446744073709551616 ≥ 9223372036854775808)) then n % 18446744073709551616 - 18446744073709551616 else n % 18446744073709551616) = n
  simp only [Bool.true_and, decide_eq_true_eq]
  split <;> omega
/-! rows of whole numbers -/
def ints (k : IntKind) (l : List Int) : List V := l.map (.int k)
def ofCellsI (k : IntKind) : List V → Option (List Int)
  | [] => some []
  | .int k' c :: vs => if k' = k then (ofCellsI k vs).map (c :: ·) else none
  | _ => none
def ofInts (k : IntKind) : V → Option (List Int)
  | .nils => some []
  | .lst .frozen cs len => (ofCellsI k cs).bind fun l => if len = l.length then some l else none
  | _ => none
theorem ints_len {k : IntKind} {l : List Int} : (ints k l).length = l.length := by simp [ints]
theorem ofCellsI_ints {k : IntKind} {l : List Int} : ofCellsI k (ints k l) = some l := by
  unfold ints
  induction l with | nil => rfl | cons c l ih => simp [ofCellsI, ih]
theorem ofCellsI_inv {k : IntKind} : ∀ {vs : List V} {l : List Int}, ofCellsI k vs = some l → vs = ints k l
  | [], l, h => by simp [ofCellsI] at h; subst h; rfl
  | v :: vs, l, h => by
    unfold ofCellsI at h
    split at h
    · rename_i h1; cases h1
    · rename_i k' c us h1
      obtain ⟨rfl, rfl⟩ := List.cons.inj h1
      split at h
      · rename_i hk
        cases hu : ofCellsI k vs with
        | none => rw [hu] at h; cases h
        | some u => rw [hu] at h; cases h; rw [ofCellsI_inv hu, hk]; rfl
      · cases h
    · cases h
theorem ofInts_lst {k : IntKind} {l : List Int} {n : Nat} (h : n = l.length) : ofInts k (.lst .frozen (ints k l) n) = some l := by simp [ofInts, ofCellsI_ints, h]
theorem ofInts_nil {k : IntKind} : ofInts k .nils = some [] := rfl
theorem ofInts_inv {k : IntKind} {v : V} {l : List Int} (h : ofInts k v = some l) : Sl v (ints k l) l.length := by
  unfold ofInts at h
  split at h
  · cases h; exact .inr ⟨rfl, rfl, rfl⟩
  · rename_i cs len
    cases hc : ofCellsI k cs with
    | none => rw [hc] at h; cases h
    | some u =>
      rw [hc] at h
      simp at h
      obtain ⟨h1, rfl⟩ := h
      left; rw [ofCellsI_inv hc, h1]
  · cases h
theorem Sl.ofInts {k : IntKind} {v : V} {l : List Int} {n : Nat} (h : Sl v (ints k l) n) (hn : n = l.length) : ofInts k v = some l := by
  rcases h with rfl | ⟨rfl, h, _⟩
  · exact ofInts_lst hn
  · obtain rfl : l = [] := by cases l; rfl; cases h
    rfl
theorem ints_refs {k : IntKind} {l : List Int} {b : Nat} : norefs b (ints k l) = true := norefs_iff.2 (by simp [ints, Ab.noref])
theorem ints_one {k : IntKind} {l : List Int} : (ints k l).all oneCell = true := by simp [ints, oneCell]
theorem ints_nth {k : IntKind} {l : List Int} {i : Nat} (h : i < l.length) : (ints k l)[i]? = some (.int k (nth l i)) := map_nth h
theorem ints_app {k : IntKind} {l m : List Int} : ints k l ++ ints k m = ints k (l ++ m) := by simp [ints]
theorem ints_snoc {k : IntKind} {l : List Int} {c : Int} : ints k l ++ [.int k c] = ints k (l ++ [c]) := by simp [ints]
theorem ints_take {k : IntKind} {l : List Int} {n : Nat} : (ints k l).take n = ints k (l.take n) := by simp [ints]
theorem ints_drop {k : IntKind} {l : List Int} {n : Nat} : (ints k l).drop n = ints k (l.drop n) := by simp [ints]
theorem eq_ints {k : IntKind} : ∀ {n : Nat} {l m : List Int}, l.length = n → m.length = n → eqCells (List.replicate n (.int k)) (ints k l) (ints k m) = some (decide (l = m))
  | 0, [], [], _, _ => rfl
  | n + 1, a :: l, b :: m, h1, h2 => by
    have := eq_ints (k := k) (n := n) (l := l) (m := m) (by simpa using h1) (by simpa using h2)
    unfold ints at this ⊢
    simp only [List.replicate_succ, List.map_cons, eqCells, this]
    by_cases h : a = b <;> by_cases h' : l = m <;> simp [h, h']
theorem ints_nil {k : IntKind} : ints k [] = [] := rfl
end Go.Ab
