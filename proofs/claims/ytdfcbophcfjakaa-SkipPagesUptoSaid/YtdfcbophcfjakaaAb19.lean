import Derived.Test.YtdfcbophcfjakaaAb18
set_option linter.unusedSimpArgs false
set_option linter.unusedVariables false
set_option linter.unusedSectionVars false
/- Rules by which simp runs code: what is not yet known is not looked into. -/
namespace Go.Ab
section
variable {P : Program} {A : Ann} {T : CallF} {f : FuncId} {base : Nat}
/-- The operations of a region, in their own order. -/
def runL (P : Program) (A : Ann) (T : CallF) (f : FuncId) (base : Nat) (ops : Array Oper) : List Oper → St → Option St
  | [], s => some s
  | o :: os, s => ((opR P A T f base ops o s).map (s.put o.dst)).bind (runL P A T f base ops os)
theorem runL_nil {ops : Array Oper} {s : St} : runL P A T f base ops [] s = some s := rfl
/-- One operation, then the rest. -/
def next (P : Program) (A : Ann) (T : CallF) (f : FuncId) (base : Nat) (ops : Array Oper) (d : Option Nat) (os : List Oper) (s : St) (r : Option (V × List Nat × List AO × Nat)) : Option St := (r.map (s.put d)).bind (runL P A T f base ops os)
theorem runL_cons {ops : Array Oper} {o : Oper} {os : List Oper} {s : St} : runL P A T f base ops (o :: os) s = next P A T f base ops o.dst os s (opR P A T f base ops o s) := rfl
theorem next_congr {ops : Array Oper} {d : Option Nat} {os : List Oper} {s : St} {r r' : Option (V × List Nat × List AO × Nat)} (h : r = r') : next P A T f base ops d os s r = next P A T f base ops d os s r' := by rw [h]
theorem next_some {ops : Array Oper} {d : Option Nat} {os : List Oper} {s : St} {v : V} {tk : List Nat} {ob : List AO} {lo : Nat} : next P A T f base ops d os s (some (v, tk, ob, lo)) = runL P A T f base ops os ⟨Ab.put s.env d v, tk, ob, lo⟩ := rfl
theorem evalOps_runL {ops : Array Oper} : ∀ (k i : Nat) (s : St), i + k = ops.size → evalOps P A T f base ops (List.range' i k) s = runL P A T f base ops (ops.toList.drop i) s := by
  intro k
  induction k with
  | zero =>
    intro i s h
    rw [List.drop_of_length_le (by simp; omega)]; rfl
  | succ k ih =>
    intro i s h
    have hlt : i < ops.toList.length := by simp; omega
    rw [List.range'_succ, List.drop_eq_getElem_cons hlt]
    simp only [evalOps, runL, stepOp]
    have e : ops[i]? = some (ops.toList[i]'hlt) := by rw [Array.getElem?_eq_getElem (by simpa using hlt)]; simp
    rw [e]
    simp only
    cases hr : (opR P A T f base ops (ops.toList[i]'hlt) s).map (s.put (ops.toList[i]'hlt).dst) with
    | none => rfl
    | some s1 => exact ih (i + 1) s1 (by omega)
/-- Code behind code that has been run so far. -/
def contS (P : Program) (A : Ann) (T : CallF) (f : FuncId) (base n : Nat) (y : Code) (r : Option (Ex × St)) : Option (Ex × St) := match r with
  | some (.norm, s) => evalC P A T f base n y s
  | r => r
theorem contS_norm {n : Nat} {y : Code} {s : St} : contS P A T f base n y (some (.norm, s)) = evalC P A T f base n y s := rfl
theorem contS_ret {n : Nat} {y : Code} {s : St} : contS P A T f base n y (some (.ret, s)) = some (.ret, s) := rfl
theorem contS_exit {n : Nat} {y : Code} {s : St} {i : Nat} : contS P A T f base n y (some (.exit i, s)) = some (.exit i, s) := rfl
def contB (id : Nat) (r : Option (Ex × St)) : Option (Ex × St) := match r with | some (e, s) => some (e.leave id, s) | none => none
theorem contB_some {id : Nat} {e : Ex} {s : St} : contB id (some (e, s)) = some (e.leave id, s) := rfl
def norm1 (r : Option St) : Option (Ex × St) := r.map fun s => (.norm, s)
theorem norm1_some {s : St} : norm1 (some s) = some (.norm, s) := rfl
theorem run_region {n id : Nat} {ops : Array Oper} {draw : Bool} {s : St} : evalC P A T f base (n + 1) (.region id ops draw) s = norm1 (runL P A T f base ops ops.toList s) := by
  simp only [evalC, norm1]
  rw [List.range_eq_range', evalOps_runL ops.size 0 s (by omega)]; rfl
theorem run_seq {n : Nat} {x y : Code} {s : St} : evalC P A T f base (n + 1) (.seq x y) s = contS P A T f base n y (evalC P A T f base n x s) := by
  simp only [evalC, contS]
  cases evalC P A T f base n x s with
  | none => rfl
  | some p => obtain ⟨e, s⟩ := p; cases e <;> rfl
def fork (P : Program) (A : Ann) (T : CallF) (f : FuncId) (base n : Nat) (x y : Code) (s : St) (v : V) : Option (Ex × St) := match v with | .bool t => evalC P A T f base n (if t then x else y) s | _ => none
theorem fork_congr {n : Nat} {x y : Code} {s : St} {v v' : V} (h : v = v') : fork P A T f base n x y s v = fork P A T f base n x y s v' := by rw [h]
theorem fork_true {n : Nat} {x y : Code} {s : St} : fork P A T f base n x y s (.bool true) = evalC P A T f base n x s := rfl
theorem fork_false {n : Nat} {x y : Code} {s : St} : fork P A T f base n x y s (.bool false) = evalC P A T f base n y s := rfl
theorem run_cond {n : Nat} {c : Operand} {x y : Code} {s : St} : evalC P A T f base (n + 1) (.cond c x y) s = fork P A T f base n x y s (opd s.env c) := by
  simp only [evalC, fork]
  cases opd s.env c <;> rfl
theorem run_block {n id : Nat} {x : Code} {s : St} : evalC P A T f base (n + 1) (.block id x) s = contB id (evalC P A T f base n x s) := by
  simp only [evalC, contB]
  cases evalC P A T f base n x s with
  | none => rfl
  | some p => obtain ⟨e, s⟩ := p; cases e <;> simp only [Ex.leave] <;> split <;> rfl
theorem run_loop {n : Nat} {x : Code} {s : St} : evalC P A T f base (n + 1) (.loop x) s = contS P A T f base n (.loop x) (evalC P A T f base n x s) := by
  simp only [evalC, contS]
  cases evalC P A T f base n x s with
  | none => rfl
  | some p => obtain ⟨e, s⟩ := p; cases e <;> rfl
theorem run_skip {n : Nat} {s : St} : evalC P A T f base (n + 1) .skip s = some (.norm, s) := rfl
theorem run_ret {n : Nat} {s : St} : evalC P A T f base (n + 1) .ret s = some (.ret, s) := rfl
theorem run_exit {n id : Nat} {s : St} : evalC P A T f base (n + 1) (.exit id) s = some (.exit id, s) := rfl
end
end Go.Ab
