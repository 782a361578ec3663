import Derived.Laws.Entries
import Derived.Laws.BytesArg
set_option linter.unusedSimpArgs false
set_option linter.unusedVariables false
set_option linter.unusedSectionVars false
/- Abstract runs of Go functions: values whose slices stand with their contents, a list of objects that are written to, and an evaluator of the loaded code over them. (Definitions alone.) -/
namespace Go.Ab
/-- What is known of a slice's row. -/
inductive LK where
  | frozen
  | lit
  | fresh (e : Nat) (th : Bool)
  | tok (t e : Nat)
  deriving DecidableEq
inductive V where
  | int (k : IntKind) (n : Int)
  | bool (b : Bool)
  | str (s : ByteArray)
  | nils
  | lst (k : LK) (cs : List V) (len : Nat)
  | ref (id ver off len e : Nat)
  | nilp
  | ptr (id ver off : Nat)
  | fptr (cs : List V) (off : Nat)
  | nilf
  | fn (f : Fn) (first captured : List V)
  | nili
  | iface (t : TypeId) (v : V)
  | nilm
  | map (id : Nat)
  | agg (cs : List V)
  | tup (vs : List V)
  | undef
instance : Inhabited V := ⟨.undef⟩
inductive AO where
  | cells (cs : List V) (ver : Nat)
  | map (es : List (V × V))
structure St where
  env : Nat → V
  toks : List Nat
  objs : List AO
  low : Nat
def upd (e : Nat → V) (d : Nat) (v : V) : Nat → V := fun i => if i = d then v else e i
def put (e : Nat → V) (d : Option Nat) (v : V) : Nat → V := match d with | some d => upd e d v | none => e
def demote : V → V
  | .lst _ cs len => .lst .frozen cs len
  | .tup _ => .undef
  | v => v
def isDef : V → Bool
  | .undef => false
  | _ => true
def cellsOf : V → List V
  | .agg cs => cs
  | v => [v]
/-- A constant of one cell. -/
def ofCell : Value → V
  | .int k n => .int k n
  | .bool b => .bool b
  | .string s => .str s
  | .slice none 0 0 => .nils
  | .pointer none => .nilp
  | .nilFunc => .nilf
  | .nilIface => .nili
  | .map none => .nilm
  | _ => .undef
def ofConst : Value → V
  | .agg cs => .agg (cs.toList.map ofCell)
  | v => ofCell v
def opd (env : Nat → V) : Operand → V
  | .tmp t => env t
  | .const v => ofConst v
  | .func f => .fn (.func f) [] []
  | .global _ => .undef
def isAgg (P : Program) (t : TypeId) : Bool := match P.underlying t with | some (.struct _) | some (.array ..) => true | _ => false
def known (P : Program) (t : TypeId) : Bool := (P.underlying t).isSome
/-- A value out of cells. -/
def getV (P : Program) (t : TypeId) (cs : List V) (off : Nat) : Option V :=
  if known P t then
    if isAgg P t then
      match P.info? t with
      | some i => if off + i.size ≤ cs.length then some (.agg ((cs.drop off).take i.size)) else none
      | none => none
    else cs[off]?
  else none
def setCells (cs : List V) (off : Nat) (vs : List V) : List V := cs.take off ++ vs ++ cs.drop (off + vs.length)
def getObj (objs : List AO) (id ver : Nat) : Option (List V) :=
  match objs[id]? with
  | some (.cells cs v) => if v = ver then some cs else none
  | _ => none
def zeroV (P : Program) (t : TypeId) : Option (List V) :=
  match P.info? t with
  | some i => match i.zero with
    | some z => if (cellsOf (ofConst z)).length = i.size then some (cellsOf (ofConst z)) else none
    | none => none
  | none => none

mutual
def noref (b : Nat) : V → Bool
  | .int .. | .bool _ | .str _ | .nils | .nilp | .nilf | .nili | .nilm => true
  | .lst _ cs _ => norefs b cs
  | .fptr cs _ => norefs b cs
  | .agg cs => norefs b cs
  | .ref id .. => id < b
  | .ptr id .. => id < b
  | .map id => id < b
  | .iface _ v => noref b v
  | .fn _ xs ys => norefs b xs && norefs b ys
  | .tup cs => norefs b cs
  | .undef => true
def norefs (b : Nat) : List V → Bool
  | [] => true
  | v :: vs => noref b v && norefs b vs
end
/-- A row of bytes, as numbers. -/
def u8s : List V → Option (List Int)
  | [] => some []
  | .int .u8 c :: vs => (u8s vs).map (c :: ·)
  | _ => none
def intBin (op : BinOp) (k : IntKind) (a : Int) (k' : IntKind) (b : Int) : Option V :=
  match op with
  | .shl => if b < 0 then none else some (.int k (k.wrap (a * 2 ^ (min b.toNat k.bits))))
  | .shr => if b < 0 then none else some (.int k (a.fdiv (2 ^ (min b.toNat k.bits))))
  | op => if k ≠ k' then none else
    match op with
    | .add => some (.int k (k.wrap (a + b)))
    | .sub => some (.int k (k.wrap (a - b)))
    | .mul => some (.int k (k.wrap (a * b)))
    | .quo => if b = 0 then none else some (.int k (k.wrap (a.tdiv b)))
    | .rem => if b = 0 then none else some (.int k (a.tmod b))
    | .and => some (.int k (Go.bits .and k a b))
    | .or => some (.int k (Go.bits .or k a b))
    | .xor => some (.int k (Go.bits .xor k a b))
    | .andNot => some (.int k (Go.bits .andNot k a b))
    | .eql => some (.bool (a == b))
    | .neq => some (.bool (a != b))
    | .lss => some (.bool (decide (a < b)))
    | .leq => some (.bool (decide (a ≤ b)))
    | .gtr => some (.bool (decide (a > b)))
    | .geq => some (.bool (decide (a ≥ b)))
    | _ => none
def strBin (op : BinOp) (a b : ByteArray) : Option V :=
  match op with
  | .add => if a.size + b.size ≤ 9223372036854775807 then some (.str (a ++ b)) else none
  | .eql => some (.bool (a.toList == b.toList))
  | .neq => some (.bool (!(a.toList == b.toList)))
  | .lss => some (.bool (Go.Op.bytesLess a.toList b.toList))
  | _ => none
/-- The kinds of a type's cells, where all are compared, each by its kind. -/
def flat (P : Program) (t : TypeId) : Option (List TypeDesc) :=
  if P.eqGuardType P.depth t = false ∧ P.stoodInHeld t = false then
    match P.underlying t with
    | some (.array n e) => match P.underlying e with | some (.int k) => if P.cellsOf e = 1 ∧ isAgg P e = false then some (List.replicate n (.int k)) else none | _ => none
    | some (.struct fs) =>
      if fs.toList.zipIdx.all (fun (f, i) => f.name != "_" && f.offset == i && !isAgg P f.type && (match P.underlying f.type with | some (.int _) | some .bool | some .string => true | _ => false)) then
        some (fs.toList.map fun f => (P.underlying f.type).getD .invalid) else none
    | _ => none
  else none
def eqCells : List TypeDesc → List V → List V → Option Bool
  | [], [], [] => some true
  | .int _ :: ds, .int k a :: xs, .int k' b :: ys => if k = k' then (eqCells ds xs ys).map fun r => (a == b) && r else none
  | .bool :: ds, .bool a :: xs, .bool b :: ys => (eqCells ds xs ys).map fun r => (a == b) && r
  | .string :: ds, .str a :: xs, .str b :: ys => (eqCells ds xs ys).map fun r => (a.toList == b.toList) && r
  | _, _, _ => none
def nilEq : V → V → Option Bool
  | .nils, .nils => some true
  | .lst .., .nils | .nils, .lst .. | .ref .., .nils | .nils, .ref .. => some false
  | .nilp, .nilp => some true
  | .ptr .., .nilp | .nilp, .ptr .. | .fptr .., .nilp | .nilp, .fptr .. => some false
  | .nilm, .nilm => some true
  | .map _, .nilm => some false
  | .nilf, .nilf => some true
  | .fn .., .nilf | .nilf, .fn .. => some false
  | _, _ => none
def nilFit : Option TypeDesc → V → Bool
  | some (.slice _), .nils => true
  | some (.slice _), .lst .. => true
  | some (.slice _), .ref .. => true
  | some (.pointer _), .nilp => true
  | some (.pointer _), .ptr .. => true
  | some (.pointer _), .fptr .. => true
  | some (.map _ _), .nilm => true
  | some (.map _ _), .map _ => true
  | some (.func ..), .nilf => true
  | some (.func ..), .fn .. => true
  | _, _ => false
def binV (P : Program) (op : BinOp) (t : TypeId) (x y : V) : Option V :=
  match x, y with
  | .int k a, .int k' b => intBin op k a k' b
  | .bool a, .bool b => match P.underlying t, op with | some .bool, .eql => some (.bool (a == b)) | some .bool, .neq => some (.bool (!(a == b))) | _, _ => none
  | .str a, .str b => strBin op a b
  | .agg a, .agg b => match flat P t with
    | some ds => match eqCells ds a b, op with | some r, .eql => some (.bool r) | some r, .neq => some (.bool (!r)) | _, _ => none
    | none => none
  | x, y =>
    if nilFit (P.underlying t) x then match nilEq x y, op with | some r, .eql => some (.bool r) | some r, .neq => some (.bool (!r)) | _, _ => none else none
def unV (op : UnOp) (x : V) : Option V :=
  match op, x with
  | .neg, .int k n => some (.int k (k.wrap (0 - n)))
  | .xor, .int k n => some (.int k (Go.bits .xor k (if k.signed then -1 else k.max) n))
  | .not, .bool b => some (.bool (!b))
  | _, _ => none
end Go.Ab
