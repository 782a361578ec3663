-- written by this session's own program (upto.py)
import Derived.Test.YtaibfjipombilaaPCellBackx8
namespace Go.Proofs.Ytaibfjipombilaa.PCellBack
open Go.RowKit Go.Proofs.YtaibfjipombilaaW.PrintWords Go.Proofs.YtaibfjipombilaaW.PrintLast Go.Proofs.YtaibfjipombilaaW.PrintMore
set_option linter.unusedVariables false

/-- The pure statement, where what comes in is of bulk at most 1048576. -/
def stoalaw05_CellBack.PureUpto : Prop := ∀ (a0 : Int) (a1_0 : Bool) (a1_1 : Int) (l1_2 : List Int) (l2 : List Int) (l3 : List Int), (Lit.int .i64 a0).wf = true → (Lit.int .i64 a1_1).wf = true → l1_2.length ≤ maxLen → l1_2.length * 1 ≤ 140737488351232 → (∀ x ∈ l1_2, (Lit.int .u8 x).wf = true) → l2.length ≤ maxLen → l2.length * 1 ≤ 140737488351232 → (∀ x ∈ l2, (Lit.int .u8 x).wf = true) → l3.length ≤ maxLen → l3.length * 1 ≤ 140737488351232 → (∀ x ∈ l3, (Lit.int .u8 x).wf = true) → l1_2.length + l2.length + l3.length ≤ 1048576 → ∃ k, stoalaw05_CellBack.f k a0 a1_0 a1_1 l1_2 l2 l3 = some true
theorem stoalaw05_CellBack.walkUpto (P : stoalaw05_CellBack.PureUpto) (a0 : Int) (a1_0 : Bool) (a1_1 : Int) (a1_2 : Option Addr) (len1_2 cap1_2 : Nat) (z1_2 : List Int) (a2 : Option Addr) (len2 cap2 : Nat) (z2 : List Int) (a3 : Option Addr) (len3 cap3 : Nat) (z3 : List Int) (w : World) (w0 : (Lit.int .i64 a0).wf = true) (w1_1 : (Lit.int .i64 a1_1).wf = true) (w1_2 : (a1_2 = none ∧ len1_2 = 0 ∧ cap1_2 = 0 ∧ z1_2 = []) ∨ ∃ x, a1_2 = some x ∧ len1_2 ≤ cap1_2 ∧ cap1_2 ≤ maxLen ∧ z1_2.length = cap1_2 ∧ (∀ i, i < z1_2.length → w.cell? (x.add i) = some (.int .u8 (z1_2.getD i 0))) ∧ ∀ n ∈ z1_2, (Lit.int .u8 n).wf = true) (y1_2 : len1_2 * 1 ≤ 140737488351232) (w2 : (a2 = none ∧ len2 = 0 ∧ cap2 = 0 ∧ z2 = []) ∨ ∃ x, a2 = some x ∧ len2 ≤ cap2 ∧ cap2 ≤ maxLen ∧ z2.length = cap2 ∧ (∀ i, i < z2.length → w.cell? (x.add i) = some (.int .u8 (z2.getD i 0))) ∧ ∀ n ∈ z2, (Lit.int .u8 n).wf = true) (y2 : len2 * 1 ≤ 140737488351232) (w3 : (a3 = none ∧ len3 = 0 ∧ cap3 = 0 ∧ z3 = []) ∨ ∃ x, a3 = some x ∧ len3 ≤ cap3 ∧ cap3 ≤ maxLen ∧ z3.length = cap3 ∧ (∀ i, i < z3.length → w.cell? (x.add i) = some (.int .u8 (z3.getD i 0))) ∧ ∀ n ∈ z3, (Lit.int .u8 n).wf = true) (y3 : len3 * 1 ≤ 140737488351232) (yb : len1_2 + len2 + len3 ≤ 1048576) :
    Calls Try.prog 6 #[.int .i64 a0, .agg #[.bool a1_0, .int .i64 a1_1, .slice a1_2 len1_2 cap1_2], .slice a2 len2 cap2, .slice a3 len3 cap3] w fun e w' => e = .returned (.bool true) ∧ Below w.heap.size w w' := by
  obtain ⟨l1_2, rfl, hr1_2, hm1_2, hw1_2, hc1_2⟩ := ReadsInt.ofRowC w1_2
  obtain ⟨l2, rfl, hr2, hm2, hw2, hc2⟩ := ReadsInt.ofRowC w2
  obtain ⟨l3, rfl, hr3, hm3, hw3, hc3⟩ := ReadsInt.ofRowC w3
  obtain ⟨k, h⟩ := P a0 a1_0 a1_1 l1_2 l2 l3 w0 w1_1 hm1_2 y1_2 hw1_2 hm2 y2 hw2 hm3 y3 hw3 yb
  refine (stoalaw05_CellBack.calls k a0 a1_0 a1_1 _ _ l1_2 _ _ l2 _ _ l3 true w (Kd.C_of_reads (d := (0 : Int)) (h1 := fun _ => rfl) hr1_2) hc1_2 (Kd.C_of_reads (d := (0 : Int)) (h1 := fun _ => rfl) hr2) hc2 (Kd.C_of_reads (d := (0 : Int)) (h1 := fun _ => rfl) hr3) hc3 h).mono ?_
  rintro e w' ⟨rfl, hd⟩
  exact ⟨rfl, hd⟩

end Go.Proofs.Ytaibfjipombilaa.PCellBack
