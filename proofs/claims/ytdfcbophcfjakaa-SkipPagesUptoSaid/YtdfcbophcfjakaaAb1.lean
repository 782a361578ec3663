import Derived.Test.YtdfcbophcfjakaaAb0
set_option linter.unusedSimpArgs false
set_option linter.unusedVariables false
set_option linter.unusedSectionVars false
/- The evaluator of loaded code over abstract values. (Definitions alone.) -/
namespace Go.Ab
/-- How the result of an operation is held: with its contents alone; as a row that is appended to; as an object that is written to. -/
inductive Md where
  | frozen | tok | ref
  deriving DecidableEq
/-- What is laid beside a program: how results are held (by function and slot, a tuple's parts in order), which functions hand all their objects out, which write to objects of their callers, which hand a row out as one that may be written, which hand out what stands still from then on. -/
structure Ann where
  mode : FuncId → Nat → List Md
  keep : FuncId → Bool
  mutf : FuncId → Bool
  thaw : FuncId → Bool
  still : FuncId → Bool
def Ann.modes (A : Ann) (f : FuncId) (d : Option Nat) : List Md := match d with | some d => A.mode f d | none => []
def Ann.md (A : Ann) (f : FuncId) (d : Option Nat) : Md := match d with | some d => (A.mode f d).headD .frozen | none => .frozen
def oneCell : V → Bool
  | .agg _ | .tup _ | .undef => false
  | _ => true
def sizeOf? (P : Program) (t : TypeId) : Option Nat := (P.info? t).map (·.size)
/-- Where a part of a struct or an array lies, and its size. -/
def placeOf (P : Program) (t : TypeId) (i : Nat) : Option (Nat × Nat) :=
  match P.underlying t with
  | some (.struct fs) => match fs[i]? with | some f => (sizeOf? P f.type).map fun n => (f.offset, n) | none => none
  | some (.array _ e) => (sizeOf? P e).map fun n => (i * n, n)
  | _ => none
/-- Are all the parts' sizes known? -/
def sized (P : Program) (t : TypeId) : Bool :=
  match P.underlying t with
  | some (.struct fs) => fs.toList.all fun f => (sizeOf? P f.type).isSome
  | some (.array _ e) => (sizeOf? P e).isSome
  | _ => false
def fillV (place : Nat → Option (Nat × Nat)) (cs : List V) : List (Nat × V) → Option (List V)
  | [] => some cs
  | (i, v) :: rest => match place i with
    | some (off, n) => if isDef v = true ∧ (cellsOf v).length = n ∧ off + n ≤ cs.length then fillV place (setCells cs off (cellsOf v)) rest else none
    | none => none
def zeros (z : List V) (n : Nat) : List V := (List.replicate n z).flatten
def listV (P : Program) (t : TypeId) (n : Nat) (parts : List (Nat × V)) : Option (List V × Nat) :=
  match P.underlying t with
  | some (.slice e) => match sizeOf? P e, zeroV P e with
    | some sz, some z => if n * sz ≤ 16777216 ∧ 0 < sz then (fillV (fun i => some (i * sz, sz)) (zeros z n) parts).map fun cs => (cs, sz) else none
    | _, _ => none
  | _ => none
def boundV (x : Option V) (dflt : Nat) : Option Nat :=
  match x with
  | none => some dflt
  | some (.int _ i) => if 0 ≤ i then some i.toNat else none
  | _ => none
def sliceV (P : Program) (t : TypeId) (x : V) (lo hi mx : Option V) : Option V :=
  match P.underlying t, x with
  | some .string, .str s => match boundV lo 0, boundV hi s.size, mx with
    | some l, some h, none => if l ≤ h ∧ h ≤ s.size then some (.str (s.extract l h)) else none
    | _, _, _ => none
  | some (.slice e), .lst _ cs len => match boundV lo 0, boundV hi len, sizeOf? P e with
    | some l, some h, some n => if l ≤ h ∧ h ≤ len ∧ (mx.isNone = true ∨ hi.isSome = true ∧ boundV mx 0 = some h) then some (.lst .frozen ((cs.take (h * n)).drop (l * n)) (h - l)) else none
    | _, _, _ => none
  | some (.slice e), .nils => match boundV lo 0, boundV hi 0, sizeOf? P e with
    | some 0, some 0, some _ => if mx.isNone = true ∨ hi.isSome = true ∧ boundV mx 0 = some 0 then some .nils else none
    | _, _, _ => none
  | some (.slice e), .ref id ver off len n => match boundV lo 0, boundV hi len, sizeOf? P e with
    | some l, some h, some n' => if l ≤ h ∧ h ≤ len ∧ n = n' ∧ (mx.isNone = true ∨ hi.isSome = true ∧ boundV mx 0 = some h) then some (.ref id ver (off + l * n) (h - l) n) else none
    | _, _, _ => none
  | _, _ => none
/-- A slice of an array that lies in an object. -/
def sliceA (P : Program) (t : TypeId) (x : V) (objs : List AO) (lo hi mx : Option V) : Option V :=
  match P.underlying t, x with
  | some (.array k e), .ptr id ver off => match getObj objs id ver, boundV lo 0, boundV hi k, sizeOf? P e, mx with
    | some cs, some l, some h, some n, none => if l ≤ h ∧ h ≤ k ∧ off + k * n ≤ cs.length then some (.ref id ver (off + l * n) (h - l) n) else none
    | _, _, _, _, _ => none
  | _, _ => none
def indexV (P : Program) (t : TypeId) (x i : V) : Option V :=
  match i with
  | .int _ i => match P.underlying t, x with
    | some (.slice e), .lst _ cs len => if 0 ≤ i ∧ i < len then (sizeOf? P e).map fun n => .fptr cs (i.toNat * n) else none
    | some (.slice e), .ref id ver off len _ => if 0 ≤ i ∧ i < len then (sizeOf? P e).map fun n => .ptr id ver (off + i.toNat * n) else none
    | some (.array k e), .ptr id ver off => if 0 ≤ i ∧ i < k then (sizeOf? P e).map fun n => .ptr id ver (off + i.toNat * n) else none
    | some (.array k e), .fptr cs off => if 0 ≤ i ∧ i < k then (sizeOf? P e).map fun n => .fptr cs (off + i.toNat * n) else none
    | _, _ => none
  | _ => none
def fieldAddrV (P : Program) (t : TypeId) (x : V) (i : Nat) : Option V :=
  match P.underlying t with
  | some (.struct fs) => match fs[i]? with
    | some f => match sizeOf? P f.type with
      | some (_ + 1) => match x with
        | .ptr id ver off => some (.ptr id ver (off + f.offset))
        | .fptr cs off => some (.fptr cs (off + f.offset))
        | _ => none
      | _ => none
    | none => none
  | _ => none
def convV (P : Program) (src dst : TypeId) (x : V) : Option V :=
  match P.underlying src, P.underlying dst, x with
  | some _, some (.int k), .int _ n => some (.int k (k.wrap n))
  | some _, some .string, .str s => some (.str s)
  | some (.slice e), some (.slice e'), .lst .lit cs len => if src = dst ∧ cs ≠ [] then match P.underlying e' with | some (.int .u8) => some (.lst .lit cs len) | _ => none else none
  | some (.slice e), some .string, .lst _ cs len => match P.underlying e, u8s cs with | some (.int .u8), some xs => if len = xs.length then some (.str (strOfNums xs)) else none | _, _ => none
  | some (.slice e), some .string, .nils => match P.underlying e with | some (.int .u8) => some (.str ByteArray.empty) | _ => none
  | _, _, _ => none
def minmax (big : Bool) : V → List V → Option V
  | .int k x, [] => some (.int k x)
  | .int k x, .int _ y :: rest => minmax big (.int k (if big then (if y > x then y else x) else (if y < x then y else x))) rest
  | _, _ => none
/-- What depends on the operands alone. -/
def pureV (P : Program) (ρ : Operand → V) : Op → Option V
  | .move x | .assign x => some (ρ x)
  | .pick c a b => match ρ c with | .bool t => some (if t then ρ a else ρ b) | _ => none
  | .binOp op t x y _ => binV P op t (ρ x) (ρ y)
  | .unOp op _ x => unV op (ρ x)
  | .convert s d x => convV P s d (ρ x)
  | .extract t i => match ρ t with | .tup vs => (match vs[i]? with | some (.tup _) => none | r => r) | _ => none
  | .nilCheck x => match ρ x with | .ptr id ver off => some (.ptr id ver off) | .fptr cs off => some (.fptr cs off) | .fn (.func f) a b => some (.fn (.func f) a b) | _ => none
  | .build t parts => if sized P t = true then match zeroV P t with | some z => (fillV (placeOf P t) z (parts.toList.map fun p => (p.1, demote (ρ p.2)))).map .agg | none => none else none
  | .buildSlice t n parts => (listV P t n (parts.toList.map fun p => (p.1, demote (ρ p.2)))).map fun r => .lst .lit r.1 n
  | .fieldAddr t x i => fieldAddrV P t (ρ x) i
  | .field t x i => match P.underlying t, ρ x with
    | some (.struct fs), .agg cs => match fs[i]? with | some f => (getV P f.type cs f.offset).map demote | none => none
    | _, _ => none
  | .indexAddr t x i => indexV P t (ρ x) (ρ i)
  | .index t x i => match P.underlying t, ρ x, ρ i with
    | some .string, .str s, .int _ i => if 0 ≤ i then match s[i.toNat]? with | some b => some (.int .u8 b.toNat) | none => none else none
    | some (.array k e), .agg cs, .int _ i => if 0 ≤ i ∧ i < k then match sizeOf? P e with | some n => (getV P e cs (i.toNat * n)).map demote | none => none else none
    | _, _, _ => none
  | .makeFunc f a b => some (.fn f (a.toList.map fun x => demote (ρ x)) (b.toList.map fun x => demote (ρ x)))
  | .makeInterface t x => match P.underlying t with | some (.interface _) => none | some _ => some (.iface t (demote (ρ x))) | none => none
  | .sliceToArrayPointer t x => match P.underlying t, ρ x with
    | some (.array n _), .lst _ cs len => if n ≤ len then some (.fptr cs 0) else none
    | some (.array n _), .ref id ver off len _ => if n ≤ len ∧ 0 < len then some (.ptr id ver off) else none
    | _, _ => none
  | .call { callee := .builtin .len, args, argTypes } => match argTypes[0]?, args[0]? with
    | some t, some x => match P.underlying t, ρ x with
      | some .string, .str s => some (.int .i64 s.size)
      | some (.slice _), .lst _ _ len => some (.int .i64 len)
      | some (.slice _), .nils => some (.int .i64 0)
      | some (.slice _), .ref _ _ _ len _ => some (.int .i64 len)
      | some (.array n _), _ => some (.int .i64 n)
      | some (.map _ _), .nilm => some (.int .i64 0)
      | _, _ => none
    | _, _ => none
  | .call { callee := .builtin .max, args, argTypes := _ } => match args.toList.map ρ with | v :: vs => minmax true v vs | [] => none
  | .call { callee := .builtin .min, args, argTypes := _ } => match args.toList.map ρ with | v :: vs => minmax false v vs | [] => none
  | _ => none
/-- Are two keys of a map one? -/
def keyEq (d : TypeDesc) (x y : V) : Option Bool :=
  match d, x, y with
  | .int _, .int k a, .int k' b => if k = k' then some (a == b) else none
  | .string, .str a, .str b => some (a == b)
  | .bool, .bool a, .bool b => some (a == b)
  | _, _, _ => none
/-- Where a key stands in a map. -/
def findV (d : TypeDesc) (k : V) : List (V × V) → Nat → Option (Option (Nat × V))
  | [], _ => some none
  | e :: es, i => match keyEq d k e.1 with
    | some true => some (some (i, e.2))
    | some false => findV d k es (i + 1)
    | none => none
def keyOk (d : TypeDesc) (k : V) : Bool := (keyEq d k k).isSome
def getMap (objs : List AO) (id : Nat) : Option (List (V × V)) :=
  match objs[id]? with
  | some (.map es) => some es
  | _ => none
def putMap (es : List (V × V)) (r : Option (Nat × V)) (k v : V) : List (V × V) := match r with | some (i, _) => es.set i (k, v) | none => es ++ [(k, v)]
def rowMap (objs : List AO) : V → Option (List (V × V))
  | .nilm => some []
  | .map id => getMap objs id
  | _ => none
def zval (P : Program) (t : TypeId) : Option V := ((P.info? t).bind (·.zero)).map ofConst
def lookupV (P : Program) (t : TypeId) (x i : V) (ok : Bool) (objs : List AO) : Option V :=
  match P.underlying t, rowMap objs x with
  | some (.map kt et), some es => match P.underlying kt with
    | some d => if keyOk d i = true then
        match findV d i es 0, zval P et with
        | some r, some z =>
          let v := match r with | some (_, v) => demote v | none => demote z
          some (if ok then .tup [v, .bool r.isSome] else v)
        | _, _ => none
      else none
    | none => none
  | _, _ => none
/-- What reads objects. -/
def readV (P : Program) (ρ : Operand → V) (objs : List AO) : Op → Option V
  | .load t a => match ρ a with
    | .ptr id ver off => match getObj objs id ver with | some cs => (getV P t cs off).map demote | none => none
    | .fptr cs off => (getV P t cs off).map demote
    | _ => none
  | .slice t x lo hi mx => match ρ x with
    | .ptr id ver off => sliceA P t (.ptr id ver off) objs (lo.map ρ) (hi.map ρ) (mx.map ρ)
    | v => sliceV P t v (lo.map ρ) (hi.map ρ) (mx.map ρ)
  | .lookup t x i ok => lookupV P t (ρ x) (ρ i) ok objs
  | _ => none
/-- The cells of a slice that is appended or copied. -/
def rowOf (objs : List AO) (e : Nat) : V → Option (List V)
  | .nils => some []
  | .lst _ cs len => if cs.length = len * e then some cs else none
  | .ref id ver off len e' => if e = e' then match getObj objs id ver with | some cs => if off + len * e ≤ cs.length then some ((cs.drop off).take (len * e)) else none | none => none else none
  | .str s => if e = 1 then some (s.data.toList.map fun b => .int .u8 b.toNat) else none
  | _ => none
/-- The same, by the type that it has, each of its cells a value of one cell. -/
def srcOf (d : TypeDesc) (objs : List AO) (n : Nat) (y : V) : Option (List V) :=
  match d, y with
  | .slice _, .str _ => none
  | .slice _, y => match rowOf objs n y with | some ys => if ys.all oneCell = true then some ys else none | none => none
  | .string, .str s => rowOf objs n (.str s)
  | _, _ => none
/-- May a row of so many cells of that type stand in memory? -/
def fits (P : Program) (t : TypeId) (len : Nat) : Bool := match P.info? t with | some i => decide (0 < i.size ∧ 0 < i.bytes ∧ len * i.bytes < 140737488355328) | none => false
def isInt (P : Program) (t : Option TypeId) : Bool := match t with | some t => (match P.underlying t with | some (.int _) => true | _ => false) | none => false
/-- What appends to rows that stand with their contents. -/
def tokV (P : Program) (ρ : Operand → V) (objs : List AO) (toks : List Nat) : Op → Option (V × List Nat)
  | .call { callee := .builtin .append, args, argTypes } => match argTypes.toList, args.toList with
    | [t, t2], [x, y] => match P.underlying t, P.underlying t2 with
      | some (.slice e), some d => match sizeOf? P e, zeroV P e with
        | some n, some _ =>
          match srcOf d objs n (ρ y) with
          | none => none
          | some ys =>
            if n = 0 ∨ ys.length % n ≠ 0 then none else
            match ρ x with
            | .nils => if fits P e (ys.length / n) then (if ys = [] then some (.nils, toks) else some (.lst (.tok toks.length n) ys (ys.length / n), toks ++ [ys.length])) else none
            | .lst (.tok k n') cs len =>
              if n' = n ∧ toks[k]? = some cs.length ∧ cs.length = len * n ∧ fits P e (len + ys.length / n) then some (.lst (.tok k n) (cs ++ ys) (len + ys.length / n), toks.set k (cs.length + ys.length)) else none
            | _ => none
        | _, _ => none
      | _, _ => none
    | _, _ => none
  | .buildSlice t n parts => match listV P t n (parts.toList.map fun p => (p.1, demote (ρ p.2))) with
    | some r => if r.1.length = n * r.2 then some (.lst (.tok toks.length r.2) r.1 n, toks ++ [r.1.length]) else none
    | none => none
  | .makeSlice t l c => match P.underlying t, ρ l, ρ c with
    | some (.slice e), .int _ 0, .int _ b => match sizeOf? P e, zeroV P e with
      | some n, some _ => if 0 ≤ b ∧ b < 140737488355328 ∧ fits P e b.toNat ∧ 0 < n then some (.lst (.tok toks.length n) [] 0, toks ++ [0]) else none
      | _, _ => none
    | _, _, _ => none
  | _ => none
def isMapT (P : Program) (t : TypeId) : Bool := match P.underlying t with | some (.map _ _) => true | _ => false
def isIntV : V → Bool | .int .. => true | _ => false
def updateV (P : Program) (t : TypeId) (m k x : V) (base : Nat) (objs : List AO) (low : Nat) : Option (V × List AO × Nat) :=
  match P.underlying t, m with
  | some (.map kt _), .map id => match P.underlying kt, getMap objs id with
    | some d, some es => match findV d k es 0 with
      | some r => if keyOk d k = true ∧ (id < base → noref base x = true) then some (.undef, objs.set id (.map (putMap es r k x)), if id < low then id else low) else none
      | none => none
    | _, _ => none
  | _, _ => none
/-- A row copied into an object. -/
def copyV (d : TypeDesc) (n : Nat) (x y : V) (base : Nat) (objs : List AO) (low : Nat) : Option (V × List AO × Nat) :=
  match srcOf d objs n y with
  | none => none
  | some ys => match x with
    | .ref id ver off len n' => match getObj objs id ver with
      | some cs => if n' = n ∧ 0 < n ∧ ys.length % n = 0 ∧ ys.length ≤ len * n ∧ off + len * n ≤ cs.length ∧ (id < base → norefs base ys = true) then
          some (.int .i64 (ys.length / n : Nat), objs.set id (.cells (setCells cs off ys) ver), if id < low then id else low) else none
      | none => none
    | _ => none
/-- What makes objects, or writes to them. -/
def actV (P : Program) (ρ : Operand → V) (base : Nat) (objs : List AO) (low : Nat) : Op → Option (V × List AO × Nat)
  | .alloc t => (zeroV P t).map fun z => (.ptr objs.length 0 0, objs ++ [.cells z 0], low)
  | .box _ x => if isDef (demote (ρ x)) = true then some (.ptr objs.length 0 0, objs ++ [.cells (cellsOf (demote (ρ x))) 0], low) else none
  | .store t a x => match ρ a with
    | .ptr id ver off => match getObj objs id ver, sizeOf? P t with
      | some cs, some n =>
        let vs := cellsOf (demote (ρ x))
        if vs.length = n ∧ off + n ≤ cs.length ∧ vs.all oneCell = true ∧ (id < base → norefs base vs = true) then
          some (.undef, objs.set id (.cells (setCells cs off vs) ver), if id < low then id else low)
        else none
      | _, _ => none
    | _ => none
  | .makeMap t r => if isMapT P t = true ∧ (r.map ρ).all isIntV = true then some (.map objs.length, objs ++ [.map []], low) else none
  | .mapUpdate t m k x => updateV P t (ρ m) (ρ k) (demote (ρ x)) base objs low
  | .makeSlice t l c => match P.underlying t, ρ l, ρ c with
    | some (.slice e), .int _ a, .int _ b => match sizeOf? P e, zeroV P e with
      | some n, some z => if 0 ≤ a ∧ a ≤ b ∧ b < 140737488355328 ∧ fits P e b.toNat ∧ 0 < n then some (.ref objs.length 0 0 a.toNat n, objs ++ [.cells (zeros z a.toNat) 0], low) else none
      | _, _ => none
    | _, _, _ => none
  | .buildSlice t n parts => match listV P t n (parts.toList.map fun p => (p.1, demote (ρ p.2))) with
    | some r => if r.1.length = n * r.2 then some (.ref objs.length 0 0 n r.2, objs ++ [.cells r.1 0], low) else none
    | none => none
  | .call { callee := .builtin .append, args, argTypes } => match argTypes.toList, args.toList with
    | [t, t2], [x, y] => match P.underlying t, P.underlying t2 with
      | some (.slice e), some d => match sizeOf? P e, zeroV P e with
        | some n, some _ =>
          match srcOf d objs n (ρ y) with
          | none => none
          | some ys =>
            if n = 0 ∨ ys.length % n ≠ 0 then none else
            match ρ x with
            | .nils => if fits P e (ys.length / n) then (if ys = [] then some (.nils, objs, low) else some (.ref objs.length 0 0 (ys.length / n) n, objs ++ [.cells ys 0], low)) else none
            | .ref id ver 0 len n' => match getObj objs id ver with
              | some cs => if n' = n ∧ cs.length = len * n ∧ fits P e (len + ys.length / n) ∧ (id < base → norefs base ys = true) then
                  some (.ref id (ver + 1) 0 (len + ys.length / n) n, objs.set id (.cells (cs ++ ys) (ver + 1)), if id < low then id else low) else none
              | none => none
            | _ => none
        | _, _ => none
      | _, _ => none
    | _, _ => none
  | .call { callee := .builtin .copy, args, argTypes } => match argTypes.toList, args.toList with
    | [t, t2], [x, y] => match P.underlying t, P.underlying t2 with
      | some (.slice e), some d => match sizeOf? P e with
        | some n => copyV d n (ρ x) (ρ y) base objs low
        | none => none
      | _, _ => none
    | _, _ => none
  | _ => none
/-- How a call's result is held. -/
def bind1 (m : Md) (toks : List Nat) (objs : List AO) (v : V) : Option (V × List Nat × List AO) :=
  match m, v with
  | .tok, .lst (.fresh e false) cs len => some (.lst (.tok toks.length e) cs len, toks ++ [cs.length], objs)
  | .ref, .lst (.fresh e true) cs len => some (.ref objs.length 0 0 len e, toks, objs ++ [.cells cs 0])
  | _, v => some (demote v, toks, objs)
def bindAll : List Md → List Nat → List AO → List V → Option (List V × List Nat × List AO)
  | _, toks, objs, [] => some ([], toks, objs)
  | ms, toks, objs, v :: vs => match bind1 (ms.headD .frozen) toks objs v with
    | some (v', toks, objs) => match bindAll ms.tail toks objs vs with
      | some (vs', toks, objs) => some (v' :: vs', toks, objs)
      | none => none
    | none => none
def bindRes (ms : List Md) (toks : List Nat) (objs : List AO) (v : V) : Option (V × List Nat × List AO) :=
  match v with
  | .tup vs => (bindAll ms toks objs vs).map fun r => (.tup r.1, r.2.1, r.2.2)
  | v => bind1 (ms.headD .frozen) toks objs v
abbrev CallF := FuncId → List V → List AO → Option (V × Option (List AO × Nat))
/-- The function that a call comes to, and all it is given. -/
def target (ρ : Operand → V) (c : Call) : Option (FuncId × List V) :=
  match c.callee with
  | .value f => match ρ f with
    | .fn (.func g) first cap => some (g, first.map demote ++ c.args.toList.map (fun x => demote (ρ x)) ++ cap.map demote)
    | _ => none
  | _ => none
def readCall (call : CallF) (ρ : Operand → V) (objs : List AO) (c : Call) : Option V :=
  match target ρ c with
  | some (g, args) => match call g args objs with
    | some (v, none) => (bindRes [] [] [] v).map (·.1)
    | _ => none
  | none => none
/-- No way from the objects ahead of 'base' to those behind. -/
def clean (base : Nat) (objs : List AO) : Bool := (objs.take base).all fun | .cells cs _ => norefs base cs | .map es => norefs base (es.flatMap fun p => [p.1, p.2])
def fullCall (call : CallF) (ρ : Operand → V) (base : Nat) (ms : List Md) (toks : List Nat) (objs : List AO) (low : Nat) (c : Call) : Option (V × List Nat × List AO × Nat) :=
  match target ρ c with
  | some (g, args) => match call g args objs with
    | some (v, none) => (bindRes ms toks objs v).map fun r => (r.1, r.2.1, r.2.2, low)
    | some (v, some (objs', low')) => if low' < base ∧ clean base objs' = false then none else (bindRes ms toks objs' v).map fun r => (r.1, r.2.1, r.2.2, if low' < low then low' else low)
    | none => none
  | none => none
def calmCall (call : CallF) (ρ : Operand → V) (ms : List Md) (toks : List Nat) (objs : List AO) (c : Call) : Option (V × List Nat) :=
  match target ρ c with
  | some (g, args) => match call g args objs with
    | some (v, none) => (bindRes ms toks objs v).map fun r => (r.1, r.2.1)
    | _ => none
  | none => none
/-- What reads no object: rows that stand with their contents are read and cut too. -/
def pureX (P : Program) (ρ : Operand → V) (op : Op) : Option V := match op with
  | .load t a => readV P ρ [] (.load t a)
  | .slice t x lo hi mx => readV P ρ [] (.slice t x lo hi mx)
  | op => pureV P ρ op
inductive Kd where
  | pure | read | tok | act | readCall | full | calm
  deriving DecidableEq
/-- A call that writes to no object, whose result is held as a row that is appended to. -/
def isCalm (A : Ann) (f : FuncId) (d : Option Nat) (g : FuncId) : Bool := !A.mutf g && (match d with | some d => (A.mode f d).any (· == .tok) && (A.mode f d).all (· != .ref) | none => false)
def kindOf (A : Ann) (f : FuncId) (o : Oper) : Kd :=
  match o.op with
  | .load .. | .slice .. => match A.md f o.dst with | .frozen => .read | _ => .pure
  | .lookup .. => .read
  | .alloc _ | .box .. | .store .. | .makeMap .. | .mapUpdate .. => .act
  | .makeSlice .. => match A.md f o.dst with | .tok => .tok | _ => .act
  | .buildSlice .. => match A.md f o.dst with | .tok => .tok | .ref => .act | .frozen => .pure
  | .call c => match c.callee with
    | .builtin .append => match A.md f o.dst with | .ref => .act | _ => .tok
    | .builtin .copy => .act
    | .builtin _ => .pure
    | .value (.func g) => if A.mutf g || (match o.dst with | some d => (A.mode f d).any (· != .frozen) | none => false) then (if isCalm A f o.dst g then .calm else .full) else .readCall
    | _ => .full
  | _ => .pure
def evalOp (P : Program) (A : Ann) (call : CallF) (f : FuncId) (base : Nat) (o : Oper) (s : St) : Option (V × List Nat × List AO × Nat) :=
  match kindOf A f o with
  | .pure => (pureX P (opd s.env) o.op).map fun v => (v, s.toks, s.objs, s.low)
  | .read => (readV P (opd s.env) s.objs o.op).map fun v => (v, s.toks, s.objs, s.low)
  | .tok => (tokV P (opd s.env) s.objs s.toks o.op).map fun r => (r.1, r.2, s.objs, s.low)
  | .act => (actV P (opd s.env) base s.objs s.low o.op).map fun r => (r.1, s.toks, r.2.1, r.2.2)
  | .readCall => match o.op with | .call c => (readCall call (opd s.env) s.objs c).map fun v => (v, s.toks, s.objs, s.low) | _ => none
  | .full => match o.op with | .call c => fullCall call (opd s.env) base (A.modes f o.dst) s.toks s.objs s.low c | _ => none
  | .calm => match o.op with | .call c => if (A.modes f o.dst).all (· != .ref) = true then (calmCall call (opd s.env) (A.modes f o.dst) s.toks s.objs c).map fun r => (r.1, r.2, s.objs, s.low) else none | _ => none
end Go.Ab
