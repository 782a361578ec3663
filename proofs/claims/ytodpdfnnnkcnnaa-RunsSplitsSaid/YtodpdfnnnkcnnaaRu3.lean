import Derived.Test.YtodpdfnnnkcnnaaRu2
set_option linter.unusedSimpArgs false
set_option linter.unusedVariables false
set_option linter.unusedSectionVars false
set_option maxRecDepth 20000
set_option maxHeartbeats 1000000
namespace Go.Proofs.Ytodpdfnnnkcnnaa.B
open Go Go.Ab
def AG : Ann := ⟨fun f d => if f = 10 then (annOf [] [32] [] false []).mode f d else if f = 13 then (annOf [] [] [(20, [.tok])] false []).mode f d else if f = 20 then (annOf [] [17] [(6, [.ref])] false []).mode f d else if f = 23 then (annOf [] [] [] false []).mode f d else if f = 24 then (annOf [8] [] [] false []).mode f d else if f = 25 then (annOf [] [5,18] [] false []).mode f d else if f = 26 then (annOf [] [] [] false []).mode f d else if f = 33 then (annOf [] [44] [] true []).mode f d else [], fun f => if f = 10 then (annOf [] [32] [] false []).keep f else if f = 13 then (annOf [] [] [(20, [.tok])] false []).keep f else if f = 20 then (annOf [] [17] [(6, [.ref])] false []).keep f else if f = 23 then (annOf [] [] [] false []).keep f else if f = 24 then (annOf [8] [] [] false []).keep f else if f = 25 then (annOf [] [5,18] [] false []).keep f else if f = 26 then (annOf [] [] [] false []).keep f else if f = 33 then (annOf [] [44] [] true []).keep f else false, fun g => [33].contains g, fun _ => false⟩
theorem xok : XOk Try.prog (fun _ => none) := fun _ _ _ _ _ _ _ _ h => by cases h
theorem alive_run : runF Try.prog AG (callA Try.prog AG (fun _ => none) 250) 250 8 Try.f8 [] [] = some (.bool true, none) := by kernel_rfl
def k_alive : Ab.Spec := con0 fun objs => match objs with | [] => some (.bool true, none) | _ => none
noncomputable def T_alive : CallF := withF T_Split 8 k_alive
theorem T_alive_ok : CallOk Try.prog T_alive := con_by (A := AG) fit T_Split_ok (callA_ok (A := AG) fit xok 250) (fn := Try.f8) (by kernel_rfl) (by kernel_rfl) (by
  intro args objs r h0
  obtain ⟨rfl, hR⟩ := con0_inv h0
  split at hR <;> cases hR
  exact .run 250 alive_run)

end Go.Proofs.Ytodpdfnnnkcnnaa.B
