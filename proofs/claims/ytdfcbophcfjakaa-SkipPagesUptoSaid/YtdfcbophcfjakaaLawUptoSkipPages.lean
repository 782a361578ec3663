/- The statement SkipPages, as given, proved: where what comes in is of bulk at most 1048576 the Go function answers true. -/
import Derived.Test.YtdfcbophcfjakaaRows
import Derived.Test.YtdfcbophcfjakaaSkF
import Derived.WalkKit
import Derived.ProofKit
import Derived.OpenShut
import Derived.ShutString
import Derived.ChangeOld
import Derived.Below
import Derived.SizedLaws
import Derived.Deep.CondSized
namespace Go.Proofs.Ytdfcbophcfjakaa.skipPages
open Go.Ab (InM)
open Go.ChangeShapes Go.WideShapes Go.ChangeAt Go.RowKit
set_option linter.unusedVariables false
theorem own : ownKnob Try.prog.godebug = none := by kernel_rfl
theorem laidOut : laidOutB Try.prog = true := by kernel_rfl
set_option maxRecDepth 100000 in
theorem lifted (os : Os) (started : os.Started) (H : Type) (enc : TypeId × Value → H) (F : Stop.Interp) :
    ReturnsInHanded {} Try.checked os 6 .any ((Rows.OpenSpec.upto Rows.skipPagesSpec).pre6 enc Try.prog Try.f6 Rows.skipPagesUptoRow.domain false) (((Rows.OpenSpec.upto Rows.skipPagesSpec).at F).post enc Try.prog Try.f6 false true false false) := by
  refine returnsInHanded_of_cond_sized (C := Try.checked) (s := Rows.OpenSpec.upto Rows.skipPagesSpec) (k := Rows.uptoSmall) rfl own started (by kernel_rfl) Try.func6
    (OpenSpec.witness (enc := enc) (C := Try.checked) (s := Rows.OpenSpec.upto Rows.skipPagesSpec) (k := Rows.uptoSmall) rfl false ⟨#[], #[.slice none 0 0, .slice none 0 0, .int .i64 0, .slice none 0 0], []⟩ 8 (by kernel_rfl) (by kernel_rfl) (by kernel_rfl) (x := ([.nil, .nil, .lit (.int .i64 0), .nil], [], [])) (by kernel_rfl) rfl (by kernel_rfl)) ?_
  intro W base args ds gs before hval0 hW hcnd hk hsz0 _
  have hsz : (DataW.weightsEach Try.prog (Try.f6.params.toList ++ Rows.skipPagesSpec.plain.varTypes Try.prog) (ds ++ gs)).all (· ≤ reachBytes) = true := hsz0
  have hval : ∀ (j : Nat) t v, Try.f6.params[j]? = some t → args[j]? = some v → Value.okWide Try.prog W .any base t v := hval0
  have hW' := hW
  obtain ⟨p, q, hA0, hV, rfl, hfz, hnd⟩ := hW
  have hA : DataW.TrodAll enc Try.prog W 0 (fun _ => true) true Try.f6.params.toList args.toList ds p := hA0
  obtain ⟨rfl, rfl⟩ := trodVars_none hV
  have hw : (DataW.weightsEach Try.prog Try.f6.params.toList ds).all (· ≤ reachBytes) = true := by
    have e : Rows.skipPagesSpec.plain.varTypes Try.prog = [] := rfl
    rw [e, List.append_nil, List.append_nil] at hsz
    exact hsz
  have hbk : ∀ d ∈ ds, InM (Rows.uptoBulk (H := H)) 1048576 d := by
    intro d hd
    have h1 : Rows.uptoBulkAll (ds ++ []) ≤ 1048576 := of_decide_eq_true hk
    rw [List.append_nil] at h1
    exact .inr (Nat.le_trans (Go.Proofs.Ytdfcbophcfjakaa.B.bulk_mem hd) h1)
  obtain ⟨n, hn⟩ := Go.Ab.args_in (base := base) (B := Rows.uptoBulk) (M := 1048576) Go.Proofs.Ytdfcbophcfjakaa.B.flat (fun _ => Go.Proofs.Ytdfcbophcfjakaa.B.bulkB) Try.f6.params.toList args.toList ds p (by kernel_rfl) hA hw (fun j t v a b => hval j t v (by simpa using a) (by simpa using b)) hbk
  obtain ⟨vs, r1, r2⟩ := hn (n + 64) (by omega)
  have hlen : ds.length = 4 := (Go.Ab.trod_len hA).trans (by kernel_rfl)
  rcases ds with _ | ⟨d0, _ | ⟨d1, _ | ⟨d2, _ | ⟨d3, _ | ⟨d4, _⟩⟩⟩⟩⟩ <;> (first | (simp at hlen; done) | skip)
  refine (Go.Proofs.Ytdfcbophcfjakaa.B.walk_SkipPages r2 r1).mono fun e W' ⟨he, bel⟩ => ?_
  subst he
  exact ⟨_, rfl, _, _, _, [], _, [], hW', trodAll_mk1 (shut_bool Try.underlying4 _), Go.Ab.args_out laidOut bel _ _ _ _ (by kernel_rfl) hA, rfl, bel.frame _, fun h => by cases h⟩
theorem over : Rows.skipPagesUptoRow.holds Try.pinned (Rows.OpenSpec.upto Rows.skipPagesSpec) :=
  OpenClaim.holds_of_cond 6 Try.f6 rfl rfl rfl rfl rfl rfl rfl ⟨rfl, rfl, rfl, rfl, rfl⟩ rfl rfl rfl rfl rfl (by kernel_rfl) Try.func6 (by kernel_rfl)
    (of_decide_eq_true (by kernel_rfl)) (by unfold Func.isWrapper; first | (rw [if_pos (by decide +kernel)]; kernel_rfl) | (rw [if_neg (by decide +kernel)]; exact ⟨rfl, rfl⟩))
    (fun os started H enc _ F => lifted os started H enc F)
theorem proved : Rows.SkipPagesUptoSaid := over
#print axioms proved
end Go.Proofs.Ytdfcbophcfjakaa.skipPages
namespace Go.Proofs.Ytdfcbophcfjakaa
/-- The row, under a short name, for the claim. -/
theorem skipPagesUpto_holds : Rows.SkipPagesUptoSaid := skipPages.proved
end Go.Proofs.Ytdfcbophcfjakaa
