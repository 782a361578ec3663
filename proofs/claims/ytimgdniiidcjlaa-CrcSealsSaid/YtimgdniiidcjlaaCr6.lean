import Derived.Test.YtimgdniiidcjlaaCr5
set_option linter.unusedSimpArgs false
set_option linter.unusedVariables false
set_option linter.unusedSectionVars false
set_option maxRecDepth 20000
set_option maxHeartbeats 1000000
namespace Go.Proofs.Ytimgdniiidcjlaa.B
open Go Go.Ab
def AG : Ann := ⟨fun f d => if f = 8 then (annOf [] [17] [(6, [.ref])] false []).mode f d else if f = 9 then (annOf [] [] [] false []).mode f d else if f = 10 then (annOf [] [] [] false []).mode f d else if f = 11 then (annOf [] [] [] false []).mode f d else if f = 12 then (annOf [] [] [] false []).mode f d else if f = 14 then (annOf [11] [] [] false []).mode f d else if f = 15 then (annOf [] [] [] false []).mode f d else if f = 16 then (annOf [] [] [] false []).mode f d else if f = 17 then (annOf [] [] [] false []).mode f d else if f = 18 then (annOf [] [5,18] [] false []).mode f d else if f = 19 then (annOf [] [] [(13, [.ref]),(37, [.ref])] false []).mode f d else if f = 20 then (annOf [] [] [] false []).mode f d else if f = 22 then (annOf [] [] [] false []).mode f d else if f = 25 then (annOf [] [] [] false []).mode f d else if f = 26 then (annOf [8] [] [] false []).mode f d else if f = 27 then (annOf [7] [] [] false []).mode f d else if f = 28 then (annOf [] [] [] false []).mode f d else if f = 29 then (annOf [9] [] [] false []).mode f d else if f = 30 then (annOf [] [] [] true []).mode f d else if f = 32 then (annOf [] [] [] true []).mode f d else if f = 33 then (annOf [] [] [] false []).mode f d else [], fun f => if f = 8 then (annOf [] [17] [(6, [.ref])] false []).keep f else if f = 9 then (annOf [] [] [] false []).keep f else if f = 10 then (annOf [] [] [] false []).keep f else if f = 11 then (annOf [] [] [] false []).keep f else if f = 12 then (annOf [] [] [] false []).keep f else if f = 14 then (annOf [11] [] [] false []).keep f else if f = 15 then (annOf [] [] [] false []).keep f else if f = 16 then (annOf [] [] [] false []).keep f else if f = 17 then (annOf [] [] [] false []).keep f else if f = 18 then (annOf [] [5,18] [] false []).keep f else if f = 19 then (annOf [] [] [(13, [.ref]),(37, [.ref])] false []).keep f else if f = 20 then (annOf [] [] [] false []).keep f else if f = 22 then (annOf [] [] [] false []).keep f else if f = 25 then (annOf [] [] [] false []).keep f else if f = 26 then (annOf [8] [] [] false []).keep f else if f = 27 then (annOf [7] [] [] false []).keep f else if f = 28 then (annOf [] [] [] false []).keep f else if f = 29 then (annOf [9] [] [] false []).keep f else if f = 30 then (annOf [] [] [] true []).keep f else if f = 32 then (annOf [] [] [] true []).keep f else if f = 33 then (annOf [] [] [] false []).keep f else false, fun g => [30, 32].contains g, fun _ => false⟩
theorem xok : XOk Try.prog (fun _ => none) := fun _ _ _ _ _ _ _ _ h => by cases h
theorem alive_run : runF Try.prog AG (callA Try.prog AG (fun _ => none) 200) 200 7 Try.f7 [] [] = some (.bool true, none) := by kernel_rfl
def k_alive : Ab.Spec := con0 fun objs => match objs with | [] => some (.bool true, none) | _ => none
noncomputable def T_alive : CallF := withF T_Turn 7 k_alive
theorem T_alive_ok : CallOk Try.prog T_alive := con_by (A := AG) fit T_Turn_ok (callA_ok (A := AG) fit xok 200) (fn := Try.f7) (by kernel_rfl) (by kernel_rfl) (by
  intro args objs r h0
  obtain ⟨rfl, hR⟩ := con0_inv h0
  split at hR <;> cases hR
  exact .run 200 alive_run)

end Go.Proofs.Ytimgdniiidcjlaa.B
