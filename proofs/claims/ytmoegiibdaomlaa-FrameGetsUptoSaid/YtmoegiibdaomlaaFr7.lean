import Derived.Test.YtmoegiibdaomlaaFr6
import Derived.Test.YtmoegiibdaomlaaAb23
set_option linter.unusedSimpArgs false
set_option linter.unusedVariables false
set_option linter.unusedSectionVars false
set_option maxRecDepth 20000
set_option maxHeartbeats 1000000
namespace Go.Proofs.Ytmoegiibdaomlaa.B
open Go Go.Ab
def AG : Ann := ⟨fun f d => if f = 10 then (annOf [] [17] [(6, [.ref])] false []).mode f d else if f = 12 then (annOf [] [] [(36, [.tok])] false []).mode f d else if f = 13 then (annOf [] [] [] false []).mode f d else if f = 15 then (annOf [] [] [] false []).mode f d else if f = 16 then (annOf [] [] [] false []).mode f d else if f = 18 then (annOf [] [] [] false []).mode f d else if f = 24 then (annOf [] [5,18] [] false []).mode f d else if f = 25 then (annOf [8] [] [] false []).mode f d else if f = 26 then (annOf [9] [] [] false []).mode f d else if f = 27 then (annOf [] [] [(13, [.ref]),(37, [.ref])] false []).mode f d else if f = 28 then (annOf [7] [] [] false []).mode f d else if f = 29 then (annOf [] [] [] false []).mode f d else if f = 30 then (annOf [11] [] [] false []).mode f d else if f = 33 then (annOf [] [] [] false []).mode f d else if f = 34 then (annOf [] [5,7] [] false []).mode f d else if f = 35 then (annOf [] [] [] false []).mode f d else if f = 36 then (annOf [] [] [] false []).mode f d else if f = 37 then (annOf [] [] [] false []).mode f d else if f = 38 then (annOf [] [] [] false []).mode f d else if f = 39 then (annOf [] [] [] false []).mode f d else if f = 40 then (annOf [] [] [] false []).mode f d else if f = 41 then (annOf [] [] [] false []).mode f d else if f = 42 then (annOf [] [] [] false []).mode f d else [], fun f => if f = 10 then (annOf [] [17] [(6, [.ref])] false []).keep f else if f = 12 then (annOf [] [] [(36, [.tok])] false []).keep f else if f = 13 then (annOf [] [] [] false []).keep f else if f = 15 then (annOf [] [] [] false []).keep f else if f = 16 then (annOf [] [] [] false []).keep f else if f = 18 then (annOf [] [] [] false []).keep f else if f = 24 then (annOf [] [5,18] [] false []).keep f else if f = 25 then (annOf [8] [] [] false []).keep f else if f = 26 then (annOf [9] [] [] false []).keep f else if f = 27 then (annOf [] [] [(13, [.ref]),(37, [.ref])] false []).keep f else if f = 28 then (annOf [7] [] [] false []).keep f else if f = 29 then (annOf [] [] [] false []).keep f else if f = 30 then (annOf [11] [] [] false []).keep f else if f = 33 then (annOf [] [] [] false []).keep f else if f = 34 then (annOf [] [5,7] [] false []).keep f else if f = 35 then (annOf [] [] [] false []).keep f else if f = 36 then (annOf [] [] [] false []).keep f else if f = 37 then (annOf [] [] [] false []).keep f else if f = 38 then (annOf [] [] [] false []).keep f else if f = 39 then (annOf [] [] [] false []).keep f else if f = 40 then (annOf [] [] [] false []).keep f else if f = 41 then (annOf [] [] [] false []).keep f else if f = 42 then (annOf [] [] [] false []).keep f else false, fun g => [].contains g, fun _ => false⟩
theorem xok : XOk Try.prog (fun _ => none) := fun _ _ _ _ _ _ _ _ h => by cases h
theorem alive_run : runF Try.prog AG (callA Try.prog AG (fun _ => none) 250) 250 9 Try.f9 [] [] = some (.bool true, none) := by kernel_rfl
def k_alive : Ab.Spec := con0 fun objs => match objs with | [] => some (.bool true, none) | _ => none
noncomputable def T_alive : CallF := withF T_fGet 9 k_alive
theorem T_alive_ok : CallOk Try.prog T_alive := con_by (A := AG) fit T_fGet_ok (callA_ok (A := AG) fit xok 250) (fn := Try.f9) (by kernel_rfl) (by kernel_rfl) (by
  intro args objs r h0
  obtain ⟨rfl, hR⟩ := con0_inv h0
  split at hR <;> cases hR
  exact .run 250 alive_run)

end Go.Proofs.Ytmoegiibdaomlaa.B
