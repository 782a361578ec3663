/- The statement SkipHeights, as given, proved: for every input the Go function answers true. -/
import Derived.Test.YtdfcbophcfjakaaRows
import Derived.Test.YtdfcbophcfjakaaSkD
import Derived.WalkKit
import Derived.ProofKit
import Derived.OpenShut
import Derived.ShutString
import Derived.ChangeOld
import Derived.Below
import Derived.SizedLaws
namespace Go.Proofs.Ytdfcbophcfjakaa.skipHeights
open Go.ChangeShapes Go.WideShapes Go.ChangeAt Go.RowKit
set_option linter.unusedVariables false
theorem own : ownKnob Try.prog.godebug = none := by kernel_rfl
theorem laidOut : laidOutB Try.prog = true := by kernel_rfl
set_option maxRecDepth 100000 in
theorem lifted (os : Os) (started : os.Started) (H : Type) (enc : TypeId × Value → H) :
    ReturnsInHanded {} Try.checked os 4 .any (Rows.skipHeightsSpec.pre6 enc Try.prog Try.f4 Rows.skipHeightsRow.domain false) (Rows.skipHeightsSpec.post enc Try.prog Try.f4 false true false false) := by
  refine returnsInHanded_of_change_sized (C := Try.checked) own started (by kernel_rfl) Try.func4
    (ChangeSpec.witness6 (enc := enc) (C := Try.checked) false ⟨#[], #[.slice none 0 0, .slice none 0 0, .slice none 0 0, .slice none 0 0, .slice none 0 0], []⟩ 8 (by kernel_rfl) (by kernel_rfl) (by kernel_rfl) (by kernel_rfl)) ?_
  intro W base args ds gs before hval0 hW hcnd hsz0 _
  have hsz : (DataW.weightsEach Try.prog (Try.f4.params.toList ++ Rows.skipHeightsSpec.plain.varTypes Try.prog) (ds ++ gs)).all (· ≤ reachBytes) = true := hsz0
  have hval : ∀ (j : Nat) t v, Try.f4.params[j]? = some t → args[j]? = some v → Value.okWide Try.prog W .any base t v := hval0
  have hW' := hW
  obtain ⟨p, q, hA0, hV, rfl, hfz, hnd⟩ := hW
  have hA : DataW.TrodAll enc Try.prog W 0 (fun _ => true) true Try.f4.params.toList args.toList ds p := hA0
  obtain ⟨rfl, rfl⟩ := trodVars_none hV
  have hw : (DataW.weightsEach Try.prog Try.f4.params.toList ds).all (· ≤ reachBytes) = true := by
    have e : Rows.skipHeightsSpec.plain.varTypes Try.prog = [] := rfl
    rw [e, List.append_nil, List.append_nil] at hsz
    exact hsz
  obtain ⟨n, hn⟩ := Go.Ab.args_in (base := base) (B := fun _ => 0) (M := 0) Go.Proofs.Ytdfcbophcfjakaa.B.flat (fun h => absurd rfl h) Try.f4.params.toList args.toList ds p (by kernel_rfl) hA hw (fun j t v a b => hval j t v (by simpa using a) (by simpa using b)) (fun _ _ => .inl rfl)
  obtain ⟨vs, r1, r2⟩ := hn (n + 64) (by omega)
  have hlen : ds.length = 5 := (Go.Ab.trod_len hA).trans (by kernel_rfl)
  rcases ds with _ | ⟨d0, _ | ⟨d1, _ | ⟨d2, _ | ⟨d3, _ | ⟨d4, _ | ⟨d5, _⟩⟩⟩⟩⟩⟩ <;> (first | (simp at hlen; done) | skip)
  refine (Go.Proofs.Ytdfcbophcfjakaa.B.walk_SkipHeights r2 r1).mono fun e W' ⟨he, bel⟩ => ?_
  subst he
  exact ⟨_, rfl, _, _, _, [], _, [], hW', trodAll_mk1 (shut_bool Try.underlying4 _), Go.Ab.args_out laidOut bel _ _ _ _ (by kernel_rfl) hA, rfl, bel.frame _, fun h => by cases h⟩
theorem over : Rows.skipHeightsRow.holds Try.pinned (OpenSpec.ofChange Rows.skipHeightsSpec) :=
  OpenClaim.holds_of_wide 4 Try.f4 rfl rfl rfl rfl rfl rfl rfl ⟨rfl, rfl, rfl, rfl, rfl⟩ rfl rfl rfl rfl rfl (by kernel_rfl) Try.func4 (by kernel_rfl)
    (of_decide_eq_true (by kernel_rfl)) (by unfold Func.isWrapper; first | (rw [if_pos (by decide +kernel)]; kernel_rfl) | (rw [if_neg (by decide +kernel)]; exact ⟨rfl, rfl⟩))
    (fun os started H enc _ => lifted os started H enc)
theorem proved : Rows.SkipHeightsSaid := over
#print axioms proved
end Go.Proofs.Ytdfcbophcfjakaa.skipHeights
namespace Go.Proofs.Ytdfcbophcfjakaa
/-- The row, under a short name, for the claim. -/
theorem skipHeights_holds : Rows.SkipHeightsSaid := skipHeights.proved
end Go.Proofs.Ytdfcbophcfjakaa
