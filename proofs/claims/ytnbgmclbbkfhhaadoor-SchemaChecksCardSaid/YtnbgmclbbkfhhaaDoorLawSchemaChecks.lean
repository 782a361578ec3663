/- The statement SchemaChecks, as given, with its card, proved: for every input the Go function answers true. -/
import Derived.Test.YtnbgmclbbkfhhaaDoorCards
import Derived.Test.YtnbgmclbbkfhhaaDoorTie
import Derived.Test.YtnbgmclbbkfhhaaDoorChA
import Derived.WalkKit
import Derived.ProofKit
import Derived.OpenShut
import Derived.ShutString
import Derived.ChangeOld
import Derived.Below
import Derived.SizedLaws
import Derived.Deep.DeepHandedRow
import Derived.Lib.LaidTab
namespace Go.Proofs.YtnbgmclbbkfhhaaDoor.schemaChecks
open Go.Ab (InM)
open Go.ChangeShapes Go.WideShapes Go.ChangeAt Go.RowKit
set_option linter.unusedVariables false
theorem own : ownKnob Tryd.prog.godebug = none := by kernel_rfl
theorem laidOut : laidOutB Tryd.prog = true := by kernel_rfl
/-- The cells that a table lays. -/
def oneC : DataW Unit → Value | .lit (.int k n) => .int k n | _ => .bool false
def cells1 : DataW Unit → List Value | .agg ds => ds.map oneC | _ => []
def cells2 : DataW Unit → List Value | .agg ds => ds.flatMap cells1 | _ => []
def lay (cs : List Value) : Obj → Obj
  | .cells _ t frozen => .cells cs.toArray t frozen
  | o => o
noncomputable def laidWorld (os : Os) : World :=
  { World.holding Tryd.prog os ⟨#[], #[], []⟩ with heap := (World.holding Tryd.prog os ⟨#[], #[], []⟩).heap.modify 2 (lay (cells2 Rows.laid_unicode_utf8_acceptRanges)) |>.modify 1 (lay (cells1 Rows.laid_unicode_utf8_first)) }
theorem laid_met (os : Os) : laidMet Tryd.prog Rows.schemaChecksRow.laid ((laidWorld os).forCall (fun _ _ => 0) ⟨#[], #[.agg #[.slice none 0 0, .int .i64 0], .agg #[.int .i64 0, .slice none 0 0, .slice none 0 0]], []⟩).memory :=
  laidMet_of_run' 8 (by kernel_rfl) (by kernel_rfl)
theorem reads (os : Os) {H : Type} (enc : TypeId × Value → H) : ∃ places, DataW.whole enc Tryd.prog ((laidWorld os).forCall (fun _ _ => 0) ⟨#[], #[.agg #[.slice none 0 0, .int .i64 0], .agg #[.int .i64 0, .slice none 0 0, .slice none 0 0]], []⟩).memory Tryd.f3.params.toList Rows.schemaChecksSpec.vars false (#[.agg #[.slice none 0 0, .int .i64 0], .agg #[.int .i64 0, .slice none 0 0, .slice none 0 0]] : Array Value).toList 8 = some ([.agg [.nil, .lit (.int .i64 0)], .agg [.lit (.int .i64 0), .nil, .nil]], [], places) :=
  ⟨[], by kernel_rfl⟩
set_option maxRecDepth 100000 in
theorem lifted (os : Os) (started : os.Started) (H : Type) (enc : TypeId × Value → H) (F : Stop.Interp) :
    ReturnsInHanded {} Tryd.checked os 3 .any ((OpenSpec.ofChange Rows.schemaChecksSpec).preRow enc Tryd.prog Tryd.f3 Rows.schemaChecksRow.domain false Rows.schemaChecksRow.laid) (((OpenSpec.ofChange Rows.schemaChecksSpec).at F).post enc Tryd.prog Tryd.f3 false true false false) := by
  obtain ⟨places, hx⟩ := reads os enc
  refine returnsInHanded_of_row (C := Tryd.checked) (s := OpenSpec.ofChange Rows.schemaChecksSpec) own started (by kernel_rfl) Tryd.func3
    (witness_row_at (enc := enc) (C := Tryd.checked) false (laidWorld os) #[.agg #[.slice none 0 0, .int .i64 0], .agg #[.int .i64 0, .slice none 0 0, .slice none 0 0]] rfl (by kernel_rfl) (by kernel_rfl) (by kernel_rfl)
      (OpenSpec.preRow_of_cond 8 hx (by kernel_rfl) (fun k hk => by cases hk) (by kernel_rfl) (laid_met os))) ?_
  intro W base args ds gs before hval0 hW _ hk hsz0 hL _ _
  have hsz : (DataW.weightsEach Tryd.prog (Tryd.f3.params.toList ++ Rows.schemaChecksSpec.plain.varTypes Tryd.prog) (ds ++ gs)).all (· ≤ reachBytes) = true := hsz0
  have hval : ∀ (j : Nat) t v, Tryd.f3.params[j]? = some t → args[j]? = some v → Value.okWide Tryd.prog W .any base t v := hval0
  have hW' := hW
  obtain ⟨p, q, hA0, hV, rfl, hfz, hnd⟩ := hW
  have hA : DataW.TrodAll enc Tryd.prog W 0 (fun _ => true) true Tryd.f3.params.toList args.toList ds p := hA0
  obtain ⟨rfl, rfl⟩ := trodVars_none hV
  have hw : (DataW.weightsEach Tryd.prog Tryd.f3.params.toList ds).all (· ≤ reachBytes) = true := by
    have e : Rows.schemaChecksSpec.plain.varTypes Tryd.prog = [] := rfl
    rw [e, List.append_nil, List.append_nil] at hsz
    exact hsz
  obtain ⟨n, hn⟩ := Go.Ab.args_in (base := base) (B := fun _ => 0) (M := 0) Go.Proofs.YtnbgmclbbkfhhaaDoor.B.flat (fun h => absurd rfl h) Tryd.f3.params.toList args.toList ds p (by kernel_rfl) hA hw (fun j t v a b => hval j t v (by simpa using a) (by simpa using b)) (fun _ _ => .inl rfl)
  obtain ⟨vs, r1, r2⟩ := hn (n + 64) (by omega)
  have hlen : ds.length = 2 := (Go.Ab.trod_len hA).trans (by kernel_rfl)
  rcases ds with _ | ⟨d0, _ | ⟨d1, _ | ⟨d2, _⟩⟩⟩ <;> (first | (simp at hlen; done) | skip)
  refine (Go.Proofs.YtnbgmclbbkfhhaaDoor.B.walk_SchemaChecks r2 r1).mono fun e W' ⟨he, bel⟩ => ?_
  subst he
  exact ⟨_, rfl, _, _, _, [], _, [], hW', trodAll_mk1 (shut_bool Tryd.underlying4 _), Go.Ab.args_out laidOut bel _ _ _ _ (by kernel_rfl) hA, rfl, bel.frame _, fun h => by cases h⟩
theorem said : Rows.SchemaChecksSaid :=
  OpenClaim.holds_of_cond 3 Tryd.f3 rfl rfl rfl rfl rfl rfl rfl ⟨rfl, rfl, rfl, rfl, rfl⟩ rfl rfl rfl rfl rfl (by kernel_rfl) Tryd.func3 (by kernel_rfl)
    (of_decide_eq_true (by kernel_rfl)) (by unfold Func.isWrapper; first | (rw [if_pos (by decide +kernel)]; kernel_rfl) | (rw [if_neg (by decide +kernel)]; exact ⟨rfl, rfl⟩))
    (fun os started H enc _ F => by rw [OpenClaim.pre_eq_preRow]; exact lifted os started H enc F)
/-- What the card asks of the function's parameters. -/
theorem plain (f : FuncId) (fn : Func) (hf : Tryd.pinned.checked.prog.funcNamed "stoa/stoalaw06.SchemaChecks" = some f) (hfn : Tryd.pinned.checked.prog.funcs[f]? = some fn) :
    false = Tryd.pinned.checked.prog.looks [] ∧ ∀ (j : Nat) t, fn.params[j]? = some t → Tryd.pinned.checked.prog.wantsStandIn t = false := by
  obtain rfl : f = 3 := Option.some.inj ((show Tryd.prog.funcNamed "stoa/stoalaw06.SchemaChecks" = some 3 by kernel_rfl).symm.trans hf) |>.symm
  obtain rfl : fn = Tryd.f3 := (Option.some.inj (Tryd.func3.symm.trans hfn)).symm
  refine ⟨by kernel_rfl, fun j t ht => ?_⟩
  rw [Tryd.params3] at ht
  have hm := Array.mem_of_getElem? ht
  simp at hm
  rcases hm with rfl | rfl
  · exact (show Tryd.prog.wantsStandIn 24 = false by kernel_rfl)
  · exact (show Tryd.prog.wantsStandIn 28 = false by kernel_rfl)
theorem card : Rows.SchemaChecksCardSaid :=
  Claim7.holds_tied_plain_at .later [] _ _ _ _ said (fun _ h => by cases h) (by kernel_rfl) (fun _ h => by cases h) schemaChecks_row_tie rfl ⟨rfl, rfl⟩ (by kernel_rfl) rfl plain (by kernel_rfl)
#print axioms card
end Go.Proofs.YtnbgmclbbkfhhaaDoor.schemaChecks
namespace Go.Proofs.YtnbgmclbbkfhhaaDoor
/-- The card, under a short name, for the claim. -/
theorem schemaChecks_card : Rows.SchemaChecksCardSaid := schemaChecks.card
end Go.Proofs.YtnbgmclbbkfhhaaDoor
