-- written by this session's own printing program (myprint.sh)
import Derived.Test.YtaibfjipombilaaRows
import Derived.Test.YtaibfjipombilaaPCellOrdersx9
import Derived.Test.YtaibfjipombilaaPureCellOrders
import Derived.WalkKit
import Derived.ProofKit
import Derived.OpenShut
import Derived.ShutString
import Derived.ChangeOld
import Derived.Below
import Derived.SizedLaws
import Derived.Test.YtaibfjipombilaaWSized
import Derived.Deep.Strs
namespace Go.Proofs.Ytaibfjipombilaa.cellOrders
open Go.ChangeShapes Go.WideShapes Go.ChangeAt Go.RowKit
open Go.ChangeMaps (open_string shut_string)
set_option linter.unusedVariables false
theorem own : ownKnob Try.prog.godebug = none := by kernel_rfl
theorem laidOut : laidOutB Try.prog = true := by kernel_rfl
def IsRow (k : IntKind) (w : World) (a : Option Addr) (len cap : Nat) (zs : List Int) : Prop :=
  (a = none ∧ len = 0 ∧ cap = 0 ∧ zs = []) ∨
  ∃ x, a = some x ∧ len ≤ cap ∧ cap ≤ maxLen ∧ zs.length = cap ∧ (∀ i, i < zs.length → w.cell? (x.add i) = some (.int k (zs.getD i 0))) ∧ ∀ n ∈ zs, (Lit.int k n).wf = true
theorem opened3 {H : Type} {enc : TypeId × Value → H} {P : Program} {W : World} {base : Nat} {sp : Nat → Bool} {held : Bool} {t : TypeId} {f0 f1 f2 : Field} {cs : Array Value} {d : DataW H} {ps : List MemPlace}
    (ht : P.underlying t = some (.struct #[f0, f1, f2])) (o0 : f0.offset = 0) (o1 : f1.offset = 1) (o2 : f2.offset = 2) (c0 : P.cellsOf f0.type = 1) (c1 : P.cellsOf f1.type = 1) (c2 : P.cellsOf f2.type = 1) (ct : P.cellsOf t = 3) (h : DataW.Trod enc P W base sp held t (.agg cs) d ps) :
    ∃ v0 v1 v2 y0 y1 y2 n, cs = #[v0, v1, v2] ∧ d = .agg [y0.1, y1.1, y2.1] ∧ DataW.trod enc P W base sp held n f0.type [v0] = some y0 ∧ DataW.trod enc P W base sp held n f1.type [v1] = some y1 ∧ DataW.trod enc P W base sp held n f2.type [v2] = some y2 := by
  obtain ⟨fuel, hf⟩ := h
  obtain ⟨y0, y1, y2, n, hx, hl, g0, g1, g2⟩ := Go.Deep.trod_struct3 ht hf
  obtain ⟨l⟩ := cs
  simp only [Value.cells] at hl g0 g1 g2
  rw [ct] at hl
  match l, hl with
  | [v0, v1, v2], _ =>
    rw [o0, c0] at g0
    rw [o1, c1] at g1
    rw [o2, c2] at g2
    exact ⟨v0, v1, v2, y0, y1, y2, n, rfl, (Prod.mk.inj hx).1, g0, g1, g2⟩
set_option maxRecDepth 100000 in
theorem lifted (os : Os) (started : os.Started) (H : Type) (enc : TypeId × Value → H) :
    ReturnsInHanded {} Try.checked os 8 .any (Rows.cellOrdersSpec.pre6 enc Try.prog Try.f8 Rows.cellOrdersRow.domain false) (Rows.cellOrdersSpec.post enc Try.prog Try.f8 false true false false) := by
  refine returnsInHanded_of_change_sized (C := Try.checked) own started (by kernel_rfl) Try.func8
    (ChangeSpec.witness6 (enc := enc) (C := Try.checked) false ⟨#[], #[.int .i64 0, .agg #[.bool false, .int .i64 0, .slice none 0 0], .agg #[.bool false, .int .i64 0, .slice none 0 0], .agg #[.bool false, .int .i64 0, .slice none 0 0]], []⟩ 8 (by kernel_rfl) (by kernel_rfl) (by kernel_rfl) (by kernel_rfl)) ?_
  intro W base args ds gs before hval0 hW hcnd hsz0 _
  have hsz : (DataW.weightsEach Try.prog (Try.f8.params.toList ++ Rows.cellOrdersSpec.plain.varTypes Try.prog) (ds ++ gs)).all (· ≤ reachBytes) = true := hsz0
  have hval : ∀ (j : Nat) t v, Try.f8.params[j]? = some t → args[j]? = some v → Value.okWide Try.prog W .any base t v := hval0
  have hW' := hW
  obtain ⟨p, q, hA0, hV, rfl, hfz, hnd⟩ := hW
  have hA : DataW.TrodAll enc Try.prog W 0 (fun _ => true) true Try.f8.params.toList args.toList ds p := hA0
  rw [Try.params8] at hA hval hsz
  obtain ⟨v0, vs0, d0, ds0, p0, q0, hargs, rfl, rfl, h0, r0⟩ := trodAll_cons hA
  obtain ⟨v1, vs1, d1, ds1, p1, q1, rfl, rfl, rfl, h1, r1⟩ := trodAll_cons r0
  obtain ⟨v2, vs2, d2, ds2, p2, q2, rfl, rfl, rfl, h2, r2⟩ := trodAll_cons r1
  obtain ⟨v3, vs3, d3, ds3, p3, q3, rfl, rfl, rfl, h3, r3⟩ := trodAll_cons r2
  obtain ⟨rfl, rfl, rfl⟩ := trodAll_nil r3
  obtain rfl : args = #[v0, v1, v2, v3] := by cases args; simp_all
  obtain ⟨rfl, rfl⟩ := trodVars_none hV
  obtain ⟨a0, rfl, rfl, rfl, w0⟩ := open_int Try.underlying3 (hval 0 3 v0 rfl rfl) h0
  obtain ⟨cs1, rfl, _⟩ := okWide_struct Try.underlying24 (hval 1 24 v1 rfl rfl)
  have k1 := h1
  have lt1 : ∀ x ∈ p1, x.block < W.heap.size := by obtain ⟨m, hm⟩ := k1; exact DataW.trod_lt m _ _ _ hm
  obtain ⟨v1_0, v1_1, v1_2, u1_0, u1_1, u1_2, m1, rfl, rfl, g1_0, g1_1, g1_2⟩ := opened3 Try.underlying24 rfl rfl rfl (by kernel_rfl) (by kernel_rfl) (by kernel_rfl) (by kernel_rfl) h1
  have hsz1 : (DataW.weightsEach Try.prog [4, 2, 22] [u1_0.1, u1_1.1, u1_2.1]).all (· ≤ reachBytes) = true := by
    rw [List.all_eq_true] at hsz ⊢
    intro n hn
    refine hsz n (DataW.weights_mem_each (j := 1) (t := 24) rfl rfl n ?_)
    simp only [DataW.weights, Try.underlying24]
    exact hn
  obtain ⟨a1_0, e1_0, _⟩ := DataW.trod_bool Try.underlying4 g1_0
  obtain rfl : v1_0 = .bool a1_0 := by simpa using e1_0
  obtain ⟨a1_1, e1_1, _, w1_1⟩ := DataW.trod_int Try.underlying2 g1_1
  obtain rfl : v1_1 = .int .i64 a1_1 := by simpa using e1_1
  obtain ⟨a1_2, len1_2, cap1_2, z1_2, e1_2, w1_2⟩ : ∃ a len cap zs, v1_2 = .slice a len cap ∧ IsRow .u8 W a len cap zs := by
    rcases open_ints Try.underlying22 Try.underlying5 (by kernel_rfl) g1_2 with ⟨hcs, _⟩ | ⟨x, l, c, zs, hcs, _, hl, hm, hz, _, hcell, hwz⟩
    · exact ⟨none, 0, 0, [], by simpa using hcs, .inl ⟨rfl, rfl, rfl, rfl⟩⟩
    · exact ⟨some x, l, c, zs, by simpa using hcs, .inr ⟨_, rfl, hl, hm, by simpa using hz, hcell, hwz⟩⟩
  subst e1_2
  have y1_2 : len1_2 * 1 ≤ 140737488351232 := Go.Proofs.YtaibfjipombilaaW.PrintWords.sized_ints hsz1 (j := 2) (t := 22) rfl rfl Try.underlying22 Try.underlying5 (by kernel_rfl) (by kernel_rfl) ⟨m1, by simpa [Value.cells] using g1_2⟩
  obtain ⟨cs2, rfl, _⟩ := okWide_struct Try.underlying24 (hval 2 24 v2 rfl rfl)
  have k2 := h2
  have lt2 : ∀ x ∈ p2, x.block < W.heap.size := by obtain ⟨m, hm⟩ := k2; exact DataW.trod_lt m _ _ _ hm
  obtain ⟨v2_0, v2_1, v2_2, u2_0, u2_1, u2_2, m2, rfl, rfl, g2_0, g2_1, g2_2⟩ := opened3 Try.underlying24 rfl rfl rfl (by kernel_rfl) (by kernel_rfl) (by kernel_rfl) (by kernel_rfl) h2
  have hsz2 : (DataW.weightsEach Try.prog [4, 2, 22] [u2_0.1, u2_1.1, u2_2.1]).all (· ≤ reachBytes) = true := by
    rw [List.all_eq_true] at hsz ⊢
    intro n hn
    refine hsz n (DataW.weights_mem_each (j := 2) (t := 24) rfl rfl n ?_)
    simp only [DataW.weights, Try.underlying24]
    exact hn
  obtain ⟨a2_0, e2_0, _⟩ := DataW.trod_bool Try.underlying4 g2_0
  obtain rfl : v2_0 = .bool a2_0 := by simpa using e2_0
  obtain ⟨a2_1, e2_1, _, w2_1⟩ := DataW.trod_int Try.underlying2 g2_1
  obtain rfl : v2_1 = .int .i64 a2_1 := by simpa using e2_1
  obtain ⟨a2_2, len2_2, cap2_2, z2_2, e2_2, w2_2⟩ : ∃ a len cap zs, v2_2 = .slice a len cap ∧ IsRow .u8 W a len cap zs := by
    rcases open_ints Try.underlying22 Try.underlying5 (by kernel_rfl) g2_2 with ⟨hcs, _⟩ | ⟨x, l, c, zs, hcs, _, hl, hm, hz, _, hcell, hwz⟩
    · exact ⟨none, 0, 0, [], by simpa using hcs, .inl ⟨rfl, rfl, rfl, rfl⟩⟩
    · exact ⟨some x, l, c, zs, by simpa using hcs, .inr ⟨_, rfl, hl, hm, by simpa using hz, hcell, hwz⟩⟩
  subst e2_2
  have y2_2 : len2_2 * 1 ≤ 140737488351232 := Go.Proofs.YtaibfjipombilaaW.PrintWords.sized_ints hsz2 (j := 2) (t := 22) rfl rfl Try.underlying22 Try.underlying5 (by kernel_rfl) (by kernel_rfl) ⟨m2, by simpa [Value.cells] using g2_2⟩
  obtain ⟨cs3, rfl, _⟩ := okWide_struct Try.underlying24 (hval 3 24 v3 rfl rfl)
  have k3 := h3
  have lt3 : ∀ x ∈ p3, x.block < W.heap.size := by obtain ⟨m, hm⟩ := k3; exact DataW.trod_lt m _ _ _ hm
  obtain ⟨v3_0, v3_1, v3_2, u3_0, u3_1, u3_2, m3, rfl, rfl, g3_0, g3_1, g3_2⟩ := opened3 Try.underlying24 rfl rfl rfl (by kernel_rfl) (by kernel_rfl) (by kernel_rfl) (by kernel_rfl) h3
  have hsz3 : (DataW.weightsEach Try.prog [4, 2, 22] [u3_0.1, u3_1.1, u3_2.1]).all (· ≤ reachBytes) = true := by
    rw [List.all_eq_true] at hsz ⊢
    intro n hn
    refine hsz n (DataW.weights_mem_each (j := 3) (t := 24) rfl rfl n ?_)
    simp only [DataW.weights, Try.underlying24]
    exact hn
  obtain ⟨a3_0, e3_0, _⟩ := DataW.trod_bool Try.underlying4 g3_0
  obtain rfl : v3_0 = .bool a3_0 := by simpa using e3_0
  obtain ⟨a3_1, e3_1, _, w3_1⟩ := DataW.trod_int Try.underlying2 g3_1
  obtain rfl : v3_1 = .int .i64 a3_1 := by simpa using e3_1
  obtain ⟨a3_2, len3_2, cap3_2, z3_2, e3_2, w3_2⟩ : ∃ a len cap zs, v3_2 = .slice a len cap ∧ IsRow .u8 W a len cap zs := by
    rcases open_ints Try.underlying22 Try.underlying5 (by kernel_rfl) g3_2 with ⟨hcs, _⟩ | ⟨x, l, c, zs, hcs, _, hl, hm, hz, _, hcell, hwz⟩
    · exact ⟨none, 0, 0, [], by simpa using hcs, .inl ⟨rfl, rfl, rfl, rfl⟩⟩
    · exact ⟨some x, l, c, zs, by simpa using hcs, .inr ⟨_, rfl, hl, hm, by simpa using hz, hcell, hwz⟩⟩
  subst e3_2
  have y3_2 : len3_2 * 1 ≤ 140737488351232 := Go.Proofs.YtaibfjipombilaaW.PrintWords.sized_ints hsz3 (j := 2) (t := 22) rfl rfl Try.underlying22 Try.underlying5 (by kernel_rfl) (by kernel_rfl) ⟨m3, by simpa [Value.cells] using g3_2⟩
  clear hA0 hval0 hsz0 hsz
  refine (PCellOrders.stoalaw05_CellOrders.walk Pure.CellOrders a0 a1_0 a1_1 a1_2 len1_2 cap1_2 z1_2 a2_0 a2_1 a2_2 len2_2 cap2_2 z2_2 a3_0 a3_1 a3_2 len3_2 cap3_2 z3_2 W w0 w1_1 w1_2 y1_2 w2_1 w2_2 y2_2 w3_1 w3_2 y3_2).mono fun e W' ⟨he, bel⟩ => ?_
  subst he
  exact ⟨_, rfl, _, _, _, [], _, [], hW', trodAll_mk1 (shut_bool Try.underlying4 _), (trodAll_cons_mk (shut_int Try.underlying3 w0) (trodAll_cons_mk (Below.trod laidOut (by kernel_rfl) (of_decide_eq_true (by kernel_rfl)) k1 bel lt1) (trodAll_cons_mk (Below.trod laidOut (by kernel_rfl) (of_decide_eq_true (by kernel_rfl)) k2 bel lt2) (trodAll_cons_mk (Below.trod laidOut (by kernel_rfl) (of_decide_eq_true (by kernel_rfl)) k3 bel lt3) trodAll_mk0)))), rfl, bel.frame _, fun h => by cases h⟩
theorem over : Rows.cellOrdersRow.holds Try.pinned (OpenSpec.ofChange Rows.cellOrdersSpec) :=
  OpenClaim.holds_of_wide 8 Try.f8 rfl rfl rfl rfl rfl rfl rfl ⟨rfl, rfl, rfl, rfl, rfl⟩ rfl rfl rfl rfl rfl (by kernel_rfl) Try.func8 (by kernel_rfl)
    (of_decide_eq_true (by kernel_rfl)) (by unfold Func.isWrapper; first | (rw [if_pos (by decide +kernel)]; kernel_rfl) | (rw [if_neg (by decide +kernel)]; exact ⟨rfl, rfl⟩))
    (fun os started H enc _ => lifted os started H enc)
theorem proved : Rows.CellOrdersSaid := over
#print axioms proved
end Go.Proofs.Ytaibfjipombilaa.cellOrders
namespace Go.Proofs.Ytaibfjipombilaa
/-- The row, under a short name, for the claim. -/
theorem cellOrders_holds : Rows.CellOrdersSaid := cellOrders.proved
end Go.Proofs.Ytaibfjipombilaa
