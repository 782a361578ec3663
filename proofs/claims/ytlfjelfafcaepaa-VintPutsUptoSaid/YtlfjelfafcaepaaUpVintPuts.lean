-- written by this session's own program (upto.py)
import Derived.Test.YtlfjelfafcaepaaPVintPutsx4
namespace Go.Proofs.Ytlfjelfafcaepaa.PVintPuts
open Go.RowKit Go.Proofs.YtlfjelfafcaepaaW.PrintWords Go.Proofs.YtlfjelfafcaepaaW.PrintLast Go.Proofs.YtlfjelfafcaepaaW.PrintMore
set_option linter.unusedVariables false

/-- The pure statement, where what comes in is of bulk at most 1048576. -/
def stoalaw02_VintPuts.PureUpto : Prop := ∀ (l0 : List Int), l0.length ≤ maxLen → l0.length * 8 ≤ 140737488351232 → (∀ x ∈ l0, (Lit.int .u64 x).wf = true) → l0.length ≤ 1048576 → ∃ k, stoalaw02_VintPuts.f k l0 = some true
theorem stoalaw02_VintPuts.walkUpto (P : stoalaw02_VintPuts.PureUpto) (a0 : Option Addr) (len0 cap0 : Nat) (z0 : List Int) (w : World) (w0 : (a0 = none ∧ len0 = 0 ∧ cap0 = 0 ∧ z0 = []) ∨ ∃ x, a0 = some x ∧ len0 ≤ cap0 ∧ cap0 ≤ maxLen ∧ z0.length = cap0 ∧ (∀ i, i < z0.length → w.cell? (x.add i) = some (.int .u64 (z0.getD i 0))) ∧ ∀ n ∈ z0, (Lit.int .u64 n).wf = true) (y0 : len0 * 8 ≤ 140737488351232) (yb : len0 ≤ 1048576) :
    Calls Try.prog 3 #[.slice a0 len0 cap0] w fun e w' => e = .returned (.bool true) ∧ Below w.heap.size w w' := by
  obtain ⟨l0, rfl, hr0, hm0, hw0, hc0⟩ := ReadsInt.ofRowC w0
  obtain ⟨k, h⟩ := P l0 hm0 y0 hw0 yb
  refine (stoalaw02_VintPuts.calls k _ _ l0 true w (Kd.C_of_reads (d := (0 : Int)) (h1 := fun _ => rfl) hr0) hc0 h).mono ?_
  rintro e w' ⟨rfl, hd⟩
  exact ⟨rfl, hd⟩

end Go.Proofs.Ytlfjelfafcaepaa.PVintPuts
