import Derived.Test.YtjjldepikokogaaPxa
set_option linter.unusedSimpArgs false
set_option linter.unusedVariables false
set_option linter.unusedSectionVars false
set_option maxRecDepth 20000
set_option maxHeartbeats 1000000
namespace Go.Proofs.Ytjjldepikokogaa.B
open Go Go.Ab
def AG : Ann := ⟨fun f d => if f = 8 then (annOf [5] [] [] false []).mode f d else if f = 9 then (annOf [] [46,51] [(14, [.ref])] false []).mode f d else if f = 10 then (annOf [] [] [(14, [.ref])] false [30]).mode f d else if f = 11 then (annOf [] [] [] false [31]).mode f d else if f = 12 then (annOf [] [] [] false []).mode f d else if f = 13 then (annOf [] [17] [(6, [.ref])] false []).mode f d else if f = 18 then (annOf [] [] [] true [31]).mode f d else if f = 19 then (annOf [] [] [] false []).mode f d else if f = 20 then (annOf [8] [] [] false []).mode f d else if f = 21 then (annOf [] [5,18] [] false []).mode f d else if f = 22 then (annOf [] [] [] false []).mode f d else if f = 24 then (annOf [] [] [] false []).mode f d else if f = 25 then (annOf [] [11,18] [] false []).mode f d else if f = 26 then (annOf [] [] [] false []).mode f d else if f = 27 then (annOf [] [19] [(9, [.ref])] false []).mode f d else if f = 28 then (annOf [] [4,13,20] [] false []).mode f d else if f = 29 then (annOf [] [] [] false []).mode f d else if f = 30 then (annOf [] [18] [] false []).mode f d else if f = 31 then (annOf [] [] [] false []).mode f d else if f = 32 then (annOf [] [] [] false []).mode f d else if f = 33 then (annOf [] [] [] false []).mode f d else if f = 34 then (annOf [64,72] [] [(65, [.tok])] false []).mode f d else if f = 35 then (annOf [] [] [] false []).mode f d else if f = 37 then (annOf [] [] [] false []).mode f d else if f = 40 then (annOf [5] [] [] false []).mode f d else if f = 41 then (annOf [9] [] [] false []).mode f d else [], fun f => if f = 8 then (annOf [5] [] [] false []).keep f else if f = 9 then (annOf [] [46,51] [(14, [.ref])] false []).keep f else if f = 10 then (annOf [] [] [(14, [.ref])] false [30]).keep f else if f = 11 then (annOf [] [] [] false [31]).keep f else if f = 12 then (annOf [] [] [] false []).keep f else if f = 13 then (annOf [] [17] [(6, [.ref])] false []).keep f else if f = 18 then (annOf [] [] [] true [31]).keep f else if f = 19 then (annOf [] [] [] false []).keep f else if f = 20 then (annOf [8] [] [] false []).keep f else if f = 21 then (annOf [] [5,18] [] false []).keep f else if f = 22 then (annOf [] [] [] false []).keep f else if f = 24 then (annOf [] [] [] false []).keep f else if f = 25 then (annOf [] [11,18] [] false []).keep f else if f = 26 then (annOf [] [] [] false []).keep f else if f = 27 then (annOf [] [19] [(9, [.ref])] false []).keep f else if f = 28 then (annOf [] [4,13,20] [] false []).keep f else if f = 29 then (annOf [] [] [] false []).keep f else if f = 30 then (annOf [] [18] [] false []).keep f else if f = 31 then (annOf [] [] [] false []).keep f else if f = 32 then (annOf [] [] [] false []).keep f else if f = 33 then (annOf [] [] [] false []).keep f else if f = 34 then (annOf [64,72] [] [(65, [.tok])] false []).keep f else if f = 35 then (annOf [] [] [] false []).keep f else if f = 37 then (annOf [] [] [] false []).keep f else if f = 40 then (annOf [5] [] [] false []).keep f else if f = 41 then (annOf [9] [] [] false []).keep f else false, fun g => [18, 30, 31].contains g, fun _ => false⟩
noncomputable def XF : FuncId → Option (List V → List AO → Option V) := fun f => if f = 42 then some (fun a o => resOf (k_bCompare a o)) else none
theorem xok : XOk Try.prog XF := xok_of (T := T_bCompare) T_bCompare_ok (by
  intro f g args objs v h1 h2
  unfold XF at h1
  split at h1
  · rename_i hf; subst hf; cases h1; exact resOf_inv h2
  cases h1)
theorem alive_run : runF Try.prog AG (callA Try.prog AG XF 400) 400 7 Try.f7 [] [] = some (.bool true, none) := by kernel_rfl
def k_alive : Ab.Spec := con0 fun objs => match objs with | [] => some (.bool true, none) | _ => none
noncomputable def T_alive : CallF := withF T_Same10 7 k_alive
theorem T_alive_ok : CallOk Try.prog T_alive := con_by (A := AG) fit T_Same10_ok (callA_ok (A := AG) fit xok 400) (fn := Try.f7) (by kernel_rfl) (by kernel_rfl) (by
  intro args objs r h0
  obtain ⟨rfl, hR⟩ := con0_inv h0
  split at hR <;> cases hR
  exact .run 400 alive_run)

end Go.Proofs.Ytjjldepikokogaa.B
