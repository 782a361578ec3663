import Derived.Test.YtdfcbophcfjakaaAb1
set_option linter.unusedSimpArgs false
set_option linter.unusedVariables false
set_option linter.unusedSectionVars false
/- The evaluator, on: regions, code, calls. (Definitions alone.) -/
namespace Go.Ab
def St.put (s : St) (d : Option Nat) (r : V × List Nat × List AO × Nat) : St := ⟨Ab.put s.env d r.1, r.2.1, r.2.2.1, r.2.2.2⟩
/-- One operation of a region: skipped where its guard says so. -/
def opR (P : Program) (A : Ann) (call : CallF) (f : FuncId) (base : Nat) (ops : Array Oper) (o : Oper) (s : St) : Option (V × List Nat × List AO × Nat) :=
  match o.guard with
  | none => evalOp P A call f base o s
  | some (j, want) => match ((ops[j]?).bind (·.dst)).map s.env with
    | some (.bool b) => if b = want then evalOp P A call f base o s else some (.undef, s.toks, s.objs, s.low)
    | some .undef => some (.undef, s.toks, s.objs, s.low)
    | _ => none
def stepOp (P : Program) (A : Ann) (call : CallF) (f : FuncId) (base : Nat) (ops : Array Oper) (i : Nat) (s : St) : Option St :=
  match ops[i]? with
  | none => none
  | some o => (opR P A call f base ops o s).map (s.put o.dst)
def evalOps (P : Program) (A : Ann) (call : CallF) (f : FuncId) (base : Nat) (ops : Array Oper) : List Nat → St → Option St
  | [], s => some s
  | i :: l, s => (stepOp P A call f base ops i s).bind (evalOps P A call f base ops l)
def Kd.reads : Kd → Bool | .pure => false | _ => true
def Kd.acts : Kd → Bool | .act | .full => true | _ => false
def Kd.toks : Kd → Bool | .tok | .full | .calm => true | _ => false
def conflict (a b : Kd) : Bool := (a.toks && b.toks) || (a.acts && b.reads) || (b.acts && a.reads)
/-- The slots that an operation looks at: its operands, its guard's. -/
def looks (ops : Array Oper) (o : Oper) : List Nat :=
  (o.op.operands.toList.filterMap fun | .tmp t => some t | _ => none) ++ (match o.guard with | some (j, _) => (((ops[j]?).bind (·.dst)).toList) | none => [])
/-- Two operations that may stand in either order. -/
def apart (A : Ann) (f : FuncId) (ops : Array Oper) (a b : Oper) : Bool :=
  !conflict (kindOf A f a) (kindOf A f b) &&
  (match a.dst with | some d => !(looks ops b).contains d && b.dst != some d | none => true) &&
  (match b.dst with | some d => !(looks ops a).contains d | none => true)
def drawOk (A : Ann) (f : FuncId) (ops : Array Oper) : Bool :=
  let bef := Region.before ops
  (List.range ops.size).all fun j => match ops[j]? with
    | none => false
    | some b => (b.after.all fun e => !Region.binds .any e || decide (e.on < j)) && (List.range j).all fun i => (bef.getD j 0).testBit i || (match ops[i]? with | some a => apart A f ops a b | none => false)
inductive Ex where
  | norm | ret | exit (id : Nat)
  deriving DecidableEq
/-- All regions that are drawn may be run in their own order. -/
def drawsOk (A : Ann) (f : FuncId) : Code → Bool
  | .region _ ops draw => !draw || drawOk A f ops
  | .seq x y => drawsOk A f x && drawsOk A f y
  | .cond _ x y => drawsOk A f x && drawsOk A f y
  | .block _ x => drawsOk A f x
  | .loop x => drawsOk A f x
  | _ => true
def evalC (P : Program) (A : Ann) (call : CallF) (f : FuncId) (base : Nat) : Nat → Code → St → Option (Ex × St)
  | 0, _, _ => none
  | n + 1, c, s => match c with
    | .skip => some (.norm, s)
    | .region _ ops _ => (evalOps P A call f base ops (List.range ops.size) s).map fun s => (.norm, s)
    | .seq x y => match evalC P A call f base n x s with
      | some (.norm, s) => evalC P A call f base n y s
      | r => r
    | .cond c x y => match opd s.env c with
      | .bool t => evalC P A call f base n (if t then x else y) s
      | _ => none
    | .block id x => match evalC P A call f base n x s with
      | some (.exit i, s) => if i = id then some (.norm, s) else some (.exit i, s)
      | r => r
    | .loop x => match evalC P A call f base n x s with
      | some (.norm, s) => evalC P A call f base n (.loop x) s
      | r => r
    | .exit id => some (.exit id, s)
    | .ret => some (.ret, s)
    | _ => none
/-- What a function hands out: values with no way to its own objects; one row of its own may go out as new. -/
def out1 (base : Nat) (toks : List Nat) (objs : List AO) (fr : Bool) (v : V) : Option (V × Bool) :=
  match v with
  | .lst (.tok t e) cs len => if norefs base cs then (if fr = true ∧ toks[t]? = some cs.length ∧ cs.length = len * e then some (.lst (.fresh e false) cs len, false) else some (.lst .frozen cs len, fr)) else none
  | .lst _ cs len => if norefs base cs then some (.lst .frozen cs len, fr) else none
  | .ref id ver off len e => if id < base then some (v, fr) else
    match getObj objs id ver with
    | some cs => if norefs base cs = true ∧ fr = true ∧ off = 0 ∧ cs.length = len * e then some (.lst (.fresh e true) cs len, false) else none
    | none => none
  | .tup _ => none
  | v => if noref base v then some (v, fr) else none
def outAll (base : Nat) (toks : List Nat) (objs : List AO) : Bool → List V → Option (List V)
  | _, [] => some []
  | fr, v :: vs => match out1 base toks objs fr v with
    | some (v', fr) => (outAll base toks objs fr vs).map (v' :: ·)
    | none => none
def resVal (P : Program) (s : St) : ResultVar → Option V
  | .tmp t => some (s.env t)
  | .cell a t => match s.env a with
    | .ptr id ver off => match getObj s.objs id ver with | some cs => (getV P t cs off).map demote | none => none
    | _ => none
def resVals (P : Program) (s : St) : List ResultVar → Option (List V)
  | [] => some []
  | r :: rs => match resVal P s r, resVals P s rs with | some v, some vs => some (v :: vs) | _, _ => none
def packV : List V → V
  | [v] => v
  | vs => .tup vs
/-- Values of which no memory is asked. -/
def scalar : V → Bool
  | .int .. | .bool _ | .str _ | .nils | .nilp | .nilf | .nili | .nilm => true
  | _ => false
def scalarObjs (objs : List AO) : Bool := objs.all fun | .cells cs _ => cs.all scalar | .map _ => false
def thawable : V → Bool
  | .lst (.fresh _ _) cs _ => cs.all scalar
  | v => scalar v
def thaw : V → V
  | .lst (.fresh e _) cs len => .lst (.fresh e true) cs len
  | v => v
/-- A row that goes out may be written to, where nothing else hangs on it. -/
def thawAll (t : Bool) (objs : List AO) (vs : List V) : List V := if t = true then (if scalarObjs objs = true ∧ vs.all thawable = true then vs.map thaw else vs) else vs
/-- A value whose own objects stand still from now on. -/
def stillL (g : V → Option V) : List V → Option (List V)
  | [] => some []
  | v :: vs => match g v, stillL g vs with | some a, some b => some (a :: b) | _, _ => none
def stillV (base : Nat) (objs : List AO) : Nat → V → Option V
  | 0, _ => none
  | n + 1, v => match v with
    | .lst _ cs len => (stillL (stillV base objs n) cs).map fun cs => .lst .frozen cs len
    | .agg cs => (stillL (stillV base objs n) cs).map .agg
    | .ref id ver off len e => if id < base then some (.ref id ver off len e) else match getObj objs id ver with
      | some cs => if off + len * e ≤ cs.length then (stillL (stillV base objs n) ((cs.drop off).take (len * e))).map fun cs => .lst .frozen cs len else none
      | none => none
    | .ptr id ver off => if id < base then some (.ptr id ver off) else none
    | v => if scalar v = true then some v else none
def finish (P : Program) (A : Ann) (f : FuncId) (fn : Func) (objs0 : List AO) (s : St) : Option (V × Option (List AO × Nat)) :=
  match resVals P s fn.results.toList with
  | none => none
  | some vs =>
    if A.keep f = true then some (packV (vs.map demote), some (s.objs, s.low)) else
    if A.still f = true then (stillL (stillV objs0.length s.objs 9) vs).map fun us => (packV us, if s.low < objs0.length then some (s.objs.take objs0.length, s.low) else none) else
    match outAll objs0.length s.toks s.objs true vs with
    | some vs => some (packV (thawAll (A.thaw f) (s.objs.take objs0.length) vs), if s.low < objs0.length then some (s.objs.take objs0.length, s.low) else none)
    | none => none
def entryEnv (args : List V) : Nat → V := fun i => args.getD i .undef
/-- From where on objects are a function's own: all, where it hands all of them out. -/
def baseOf (A : Ann) (f : FuncId) (n : Nat) : Nat := if A.keep f = true then 0 else n
def callA (P : Program) (A : Ann) (X : FuncId → Option (List V → List AO → Option V)) : Nat → CallF
  | 0, _, _, _ => none
  | n + 1, f, args, objs => match P.funcs[f]? with
    | none => none
    | some fn => match fn.body with
      | none => match X f with
        | some g => (g args objs).map fun v => (v, none)
        | none => none
      | some c => if drawsOk A f c = false then none else match evalC P A (callA P A X n) f (baseOf A f objs.length) n c ⟨entryEnv args, [], objs, objs.length⟩ with
        | some (.norm, s) | some (.ret, s) => finish P A f fn objs s
        | _ => none
end Go.Ab
