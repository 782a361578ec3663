-- written by this session's own printing program (myprint.sh)
import Derived.Test.YtaibfjipombilaaRows
import Derived.Test.YtaibfjipombilaaPCellPutsx9
import Derived.Test.YtaibfjipombilaaPureCellPuts
import Derived.WalkKit
import Derived.ProofKit
import Derived.OpenShut
import Derived.ShutString
import Derived.ChangeOld
import Derived.Below
import Derived.SizedLaws
import Derived.Test.YtaibfjipombilaaWSized
import Derived.Deep.Strs
namespace Go.Proofs.Ytaibfjipombilaa.cellPuts
open Go.ChangeShapes Go.WideShapes Go.ChangeAt Go.RowKit
open Go.ChangeMaps (open_string shut_string)
set_option linter.unusedVariables false
theorem own : ownKnob Try.prog.godebug = none := by kernel_rfl
theorem laidOut : laidOutB Try.prog = true := by kernel_rfl
def IsRow (k : IntKind) (w : World) (a : Option Addr) (len cap : Nat) (zs : List Int) : Prop :=
  (a = none ∧ len = 0 ∧ cap = 0 ∧ zs = []) ∨
  ∃ x, a = some x ∧ len ≤ cap ∧ cap ≤ maxLen ∧ zs.length = cap ∧ (∀ i, i < zs.length → w.cell? (x.add i) = some (.int k (zs.getD i 0))) ∧ ∀ n ∈ zs, (Lit.int k n).wf = true
theorem opened3 {H : Type} {enc : TypeId × Value → H} {P : Program} {W : World} {base : Nat} {sp : Nat → Bool} {held : Bool} {t : TypeId} {f0 f1 f2 : Field} {cs : Array Value} {d : DataW H} {ps : List MemPlace}
    (ht : P.underlying t = some (.struct #[f0, f1, f2])) (o0 : f0.offset = 0) (o1 : f1.offset = 1) (o2 : f2.offset = 2) (c0 : P.cellsOf f0.type = 1) (c1 : P.cellsOf f1.type = 1) (c2 : P.cellsOf f2.type = 1) (ct : P.cellsOf t = 3) (h : DataW.Trod enc P W base sp held t (.agg cs) d ps) :
    ∃ v0 v1 v2 y0 y1 y2 n, cs = #[v0, v1, v2] ∧ d = .agg [y0.1, y1.1, y2.1] ∧ DataW.trod enc P W base sp held n f0.type [v0] = some y0 ∧ DataW.trod enc P W base sp held n f1.type [v1] = some y1 ∧ DataW.trod enc P W base sp held n f2.type [v2] = some y2 := by
  obtain ⟨fuel, hf⟩ := h
  obtain ⟨y0, y1, y2, n, hx, hl, g0, g1, g2⟩ := Go.Deep.trod_struct3 ht hf
  obtain ⟨l⟩ := cs
  simp only [Value.cells] at hl g0 g1 g2
  rw [ct] at hl
  match l, hl with
  | [v0, v1, v2], _ =>
    rw [o0, c0] at g0
    rw [o1, c1] at g1
    rw [o2, c2] at g2
    exact ⟨v0, v1, v2, y0, y1, y2, n, rfl, (Prod.mk.inj hx).1, g0, g1, g2⟩
set_option maxRecDepth 100000 in
theorem lifted (os : Os) (started : os.Started) (H : Type) (enc : TypeId × Value → H) :
    ReturnsInHanded {} Try.checked os 4 .any (Rows.cellPutsSpec.pre6 enc Try.prog Try.f4 Rows.cellPutsRow.domain false) (Rows.cellPutsSpec.post enc Try.prog Try.f4 false true false false) := by
  refine returnsInHanded_of_change_sized (C := Try.checked) own started (by kernel_rfl) Try.func4
    (ChangeSpec.witness6 (enc := enc) (C := Try.checked) false ⟨#[], #[.int .i64 0, .agg #[.bool false, .int .i64 0, .slice none 0 0]], []⟩ 8 (by kernel_rfl) (by kernel_rfl) (by kernel_rfl) (by kernel_rfl)) ?_
  intro W base args ds gs before hval0 hW hcnd hsz0 _
  have hsz : (DataW.weightsEach Try.prog (Try.f4.params.toList ++ Rows.cellPutsSpec.plain.varTypes Try.prog) (ds ++ gs)).all (· ≤ reachBytes) = true := hsz0
  have hval : ∀ (j : Nat) t v, Try.f4.params[j]? = some t → args[j]? = some v → Value.okWide Try.prog W .any base t v := hval0
  have hW' := hW
  obtain ⟨p, q, hA0, hV, rfl, hfz, hnd⟩ := hW
  have hA : DataW.TrodAll enc Try.prog W 0 (fun _ => true) true Try.f4.params.toList args.toList ds p := hA0
  rw [Try.params4] at hA hval hsz
  obtain ⟨v0, vs0, d0, ds0, p0, q0, hargs, rfl, rfl, h0, r0⟩ := trodAll_cons hA
  obtain ⟨v1, vs1, d1, ds1, p1, q1, rfl, rfl, rfl, h1, r1⟩ := trodAll_cons r0
  obtain ⟨rfl, rfl, rfl⟩ := trodAll_nil r1
  obtain rfl : args = #[v0, v1] := by cases args; simp_all
  obtain ⟨rfl, rfl⟩ := trodVars_none hV
  obtain ⟨a0, rfl, rfl, rfl, w0⟩ := open_int Try.underlying3 (hval 0 3 v0 rfl rfl) h0
  obtain ⟨cs1, rfl, _⟩ := okWide_struct Try.underlying24 (hval 1 24 v1 rfl rfl)
  have k1 := h1
  have lt1 : ∀ x ∈ p1, x.block < W.heap.size := by obtain ⟨m, hm⟩ := k1; exact DataW.trod_lt m _ _ _ hm
  obtain ⟨v1_0, v1_1, v1_2, u1_0, u1_1, u1_2, m1, rfl, rfl, g1_0, g1_1, g1_2⟩ := opened3 Try.underlying24 rfl rfl rfl (by kernel_rfl) (by kernel_rfl) (by kernel_rfl) (by kernel_rfl) h1
  have hsz1 : (DataW.weightsEach Try.prog [4, 2, 22] [u1_0.1, u1_1.1, u1_2.1]).all (· ≤ reachBytes) = true := by
    rw [List.all_eq_true] at hsz ⊢
    intro n hn
    refine hsz n (DataW.weights_mem_each (j := 1) (t := 24) rfl rfl n ?_)
    simp only [DataW.weights, Try.underlying24]
    exact hn
  obtain ⟨a1_0, e1_0, _⟩ := DataW.trod_bool Try.underlying4 g1_0
  obtain rfl : v1_0 = .bool a1_0 := by simpa using e1_0
  obtain ⟨a1_1, e1_1, _, w1_1⟩ := DataW.trod_int Try.underlying2 g1_1
  obtain rfl : v1_1 = .int .i64 a1_1 := by simpa using e1_1
  obtain ⟨a1_2, len1_2, cap1_2, z1_2, e1_2, w1_2⟩ : ∃ a len cap zs, v1_2 = .slice a len cap ∧ IsRow .u8 W a len cap zs := by
    rcases open_ints Try.underlying22 Try.underlying5 (by kernel_rfl) g1_2 with ⟨hcs, _⟩ | ⟨x, l, c, zs, hcs, _, hl, hm, hz, _, hcell, hwz⟩
    · exact ⟨none, 0, 0, [], by simpa using hcs, .inl ⟨rfl, rfl, rfl, rfl⟩⟩
    · exact ⟨some x, l, c, zs, by simpa using hcs, .inr ⟨_, rfl, hl, hm, by simpa using hz, hcell, hwz⟩⟩
  subst e1_2
  have y1_2 : len1_2 * 1 ≤ 140737488351232 := Go.Proofs.YtaibfjipombilaaW.PrintWords.sized_ints hsz1 (j := 2) (t := 22) rfl rfl Try.underlying22 Try.underlying5 (by kernel_rfl) (by kernel_rfl) ⟨m1, by simpa [Value.cells] using g1_2⟩
  clear hA0 hval0 hsz0 hsz
  refine (PCellPuts.stoalaw05_CellPuts.walk Pure.CellPuts a0 a1_0 a1_1 a1_2 len1_2 cap1_2 z1_2 W w0 w1_1 w1_2 y1_2).mono fun e W' ⟨he, bel⟩ => ?_
  subst he
  exact ⟨_, rfl, _, _, _, [], _, [], hW', trodAll_mk1 (shut_bool Try.underlying4 _), (trodAll_cons_mk (shut_int Try.underlying3 w0) (trodAll_cons_mk (Below.trod laidOut (by kernel_rfl) (of_decide_eq_true (by kernel_rfl)) k1 bel lt1) trodAll_mk0)), rfl, bel.frame _, fun h => by cases h⟩
theorem over : Rows.cellPutsRow.holds Try.pinned (OpenSpec.ofChange Rows.cellPutsSpec) :=
  OpenClaim.holds_of_wide 4 Try.f4 rfl rfl rfl rfl rfl rfl rfl ⟨rfl, rfl, rfl, rfl, rfl⟩ rfl rfl rfl rfl rfl (by kernel_rfl) Try.func4 (by kernel_rfl)
    (of_decide_eq_true (by kernel_rfl)) (by unfold Func.isWrapper; first | (rw [if_pos (by decide +kernel)]; kernel_rfl) | (rw [if_neg (by decide +kernel)]; exact ⟨rfl, rfl⟩))
    (fun os started H enc _ => lifted os started H enc)
theorem proved : Rows.CellPutsSaid := over
#print axioms proved
end Go.Proofs.Ytaibfjipombilaa.cellPuts
namespace Go.Proofs.Ytaibfjipombilaa
/-- The row, under a short name, for the claim. -/
theorem cellPuts_holds : Rows.CellPutsSaid := cellPuts.proved
end Go.Proofs.Ytaibfjipombilaa
