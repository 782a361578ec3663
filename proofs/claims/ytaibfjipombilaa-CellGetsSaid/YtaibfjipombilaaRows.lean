/-
  No cell of these rows narrows 'for every input' (looked for: loops, veiled, ifaces, maps, wideKeys, modest, calm, conditions, laid).
  DERIVED. THE GIVEN ROWS OF THIS SEAT. 6 by the template 'for every input the law returns true; each argument reads behind the call as it read before'; 0 by the template 'total and deterministic' (their statements: YtaibfjipombilaaTotals.lean).
  GIVEN WITH THE SEED: the statements are not yours to turn. If you find one false, say at which input.
  Laid BY PROGRAM, IN A SANDBOX (cutbox-rows.mjs): the forced cells as the released guide's own fill.sh prints them over the translation 72d7c0160a4019b8… (all of the seat's roots in one cut). By AI agents, Wed Nov 11 2026. No macro, syntax, notation, axiom, sorry.
-/
import Derived.Test.YtaibfjipombilaaChecked
import GoSem.Claim
import GoSem.ClaimJoined
import GoSem.ClaimMapViews
import Derived.JoinedTies
import Derived.KernelRfl
namespace Go.Proofs.Ytaibfjipombilaa
/- THE CELL 'sum', in the pinned program and in every row, IS THE sha256 OF THE DUMP (.gsa) THAT YtaibfjipombilaaProg.lean LOADS. Nothing in Lean hashes anything: it is a label: what it is worth is what the hold of that sum in a sandbox is worth. -/
noncomputable def Try.pinned : Pinned := { name := "ytaibfjipombilaa", sum := "72d7c0160a4019b82c99a1b17b4955348275dcc00a64258484df991cad77e734", checked := Try.checked }
namespace Rows
def none {H : Type} : Left H := { results := [], args := [] }

/-- 'stoalaw05.CellChecks': WHATEVER THE INPUT: true; the input reads as it did. -/
def cellChecksSpec : ChangeSpec := { name := "cellChecks", fn := fun _ => fun
  | [d1, d2, d3] => { results := [.lit (.bool true)], args := [d1, d2, d3] }
  | _ => none }
def cellChecksRow : OpenClaim := { program := "ytaibfjipombilaa", sum := "72d7c0160a4019b82c99a1b17b4955348275dcc00a64258484df991cad77e734", func := "stoa/stoalaw05.CellChecks", spec := "cellChecks", inPlace := ["internal/bytealg.IndexByte", "internal/bytealg.Compare"], apart := false }
def CellChecksSaid : Prop := cellChecksRow.holds Try.pinned (OpenSpec.ofChange cellChecksSpec)

/-- ITS FALSE NEIGHBOUR: 'it returns false'. Refute it at one input. -/
def cellChecksWrong : ChangeSpec := { name := "cellChecks", fn := fun _ => fun
  | [d1, d2, d3] => { results := [.lit (.bool false)], args := [d1, d2, d3] }
  | _ => none }
def CellChecksWrongFalsely : Prop := cellChecksRow.holds Try.pinned (OpenSpec.ofChange cellChecksWrong)

/-- 'stoalaw05.CellPuts': WHATEVER THE INPUT: true; the input reads as it did. -/
def cellPutsSpec : ChangeSpec := { name := "cellPuts", fn := fun _ => fun
  | [d1, d2] => { results := [.lit (.bool true)], args := [d1, d2] }
  | _ => none }
def cellPutsRow : OpenClaim := { program := "ytaibfjipombilaa", sum := "72d7c0160a4019b82c99a1b17b4955348275dcc00a64258484df991cad77e734", func := "stoa/stoalaw05.CellPuts", spec := "cellPuts", inPlace := ["internal/bytealg.IndexByte", "internal/bytealg.Compare"], apart := false }
def CellPutsSaid : Prop := cellPutsRow.holds Try.pinned (OpenSpec.ofChange cellPutsSpec)

/-- ITS FALSE NEIGHBOUR: 'it returns false'. Refute it at one input. -/
def cellPutsWrong : ChangeSpec := { name := "cellPuts", fn := fun _ => fun
  | [d1, d2] => { results := [.lit (.bool false)], args := [d1, d2] }
  | _ => none }
def CellPutsWrongFalsely : Prop := cellPutsRow.holds Try.pinned (OpenSpec.ofChange cellPutsWrong)

/-- 'stoalaw05.CellGets': WHATEVER THE INPUT: true; the input reads as it did. -/
def cellGetsSpec : ChangeSpec := { name := "cellGets", fn := fun _ => fun
  | [d1, d2, d3] => { results := [.lit (.bool true)], args := [d1, d2, d3] }
  | _ => none }
def cellGetsRow : OpenClaim := { program := "ytaibfjipombilaa", sum := "72d7c0160a4019b82c99a1b17b4955348275dcc00a64258484df991cad77e734", func := "stoa/stoalaw05.CellGets", spec := "cellGets", inPlace := ["internal/bytealg.IndexByte", "internal/bytealg.Compare"], apart := false }
def CellGetsSaid : Prop := cellGetsRow.holds Try.pinned (OpenSpec.ofChange cellGetsSpec)

/-- ITS FALSE NEIGHBOUR: 'it returns false'. Refute it at one input. -/
def cellGetsWrong : ChangeSpec := { name := "cellGets", fn := fun _ => fun
  | [d1, d2, d3] => { results := [.lit (.bool false)], args := [d1, d2, d3] }
  | _ => none }
def CellGetsWrongFalsely : Prop := cellGetsRow.holds Try.pinned (OpenSpec.ofChange cellGetsWrong)

/-- 'stoalaw05.CellBack': WHATEVER THE INPUT: true; the input reads as it did. -/
def cellBackSpec : ChangeSpec := { name := "cellBack", fn := fun _ => fun
  | [d1, d2, d3, d4] => { results := [.lit (.bool true)], args := [d1, d2, d3, d4] }
  | _ => none }
def cellBackRow : OpenClaim := { program := "ytaibfjipombilaa", sum := "72d7c0160a4019b82c99a1b17b4955348275dcc00a64258484df991cad77e734", func := "stoa/stoalaw05.CellBack", spec := "cellBack", inPlace := ["internal/bytealg.IndexByte", "internal/bytealg.Compare"], apart := false }
def CellBackSaid : Prop := cellBackRow.holds Try.pinned (OpenSpec.ofChange cellBackSpec)

/-- ITS FALSE NEIGHBOUR: 'it returns false'. Refute it at one input. -/
def cellBackWrong : ChangeSpec := { name := "cellBack", fn := fun _ => fun
  | [d1, d2, d3, d4] => { results := [.lit (.bool false)], args := [d1, d2, d3, d4] }
  | _ => none }
def CellBackWrongFalsely : Prop := cellBackRow.holds Try.pinned (OpenSpec.ofChange cellBackWrong)

/-- 'stoalaw05.CellOnly': WHATEVER THE INPUT: true; the input reads as it did. -/
def cellOnlySpec : ChangeSpec := { name := "cellOnly", fn := fun _ => fun
  | [d1, d2, d3] => { results := [.lit (.bool true)], args := [d1, d2, d3] }
  | _ => none }
def cellOnlyRow : OpenClaim := { program := "ytaibfjipombilaa", sum := "72d7c0160a4019b82c99a1b17b4955348275dcc00a64258484df991cad77e734", func := "stoa/stoalaw05.CellOnly", spec := "cellOnly", inPlace := ["internal/bytealg.IndexByte", "internal/bytealg.Compare"], apart := false }
def CellOnlySaid : Prop := cellOnlyRow.holds Try.pinned (OpenSpec.ofChange cellOnlySpec)

/-- ITS FALSE NEIGHBOUR: 'it returns false'. Refute it at one input. -/
def cellOnlyWrong : ChangeSpec := { name := "cellOnly", fn := fun _ => fun
  | [d1, d2, d3] => { results := [.lit (.bool false)], args := [d1, d2, d3] }
  | _ => none }
def CellOnlyWrongFalsely : Prop := cellOnlyRow.holds Try.pinned (OpenSpec.ofChange cellOnlyWrong)

/-- 'stoalaw05.CellOrders': WHATEVER THE INPUT: true; the input reads as it did. -/
def cellOrdersSpec : ChangeSpec := { name := "cellOrders", fn := fun _ => fun
  | [d1, d2, d3, d4] => { results := [.lit (.bool true)], args := [d1, d2, d3, d4] }
  | _ => none }
def cellOrdersRow : OpenClaim := { program := "ytaibfjipombilaa", sum := "72d7c0160a4019b82c99a1b17b4955348275dcc00a64258484df991cad77e734", func := "stoa/stoalaw05.CellOrders", spec := "cellOrders", inPlace := ["internal/bytealg.IndexByte", "internal/bytealg.Compare"], apart := false }
def CellOrdersSaid : Prop := cellOrdersRow.holds Try.pinned (OpenSpec.ofChange cellOrdersSpec)

/-- ITS FALSE NEIGHBOUR: 'it returns false'. Refute it at one input. -/
def cellOrdersWrong : ChangeSpec := { name := "cellOrders", fn := fun _ => fun
  | [d1, d2, d3, d4] => { results := [.lit (.bool false)], args := [d1, d2, d3, d4] }
  | _ => none }
def CellOrdersWrongFalsely : Prop := cellOrdersRow.holds Try.pinned (OpenSpec.ofChange cellOrdersWrong)

/- THE SECOND FORM. 'bulk': how many values and letters a reading holds, each counted each time it is reached (what is shared counts as often as it is met; a slice's spare places count too). A statement '..UptoSaid' is the law's where the arguments, and the package variables that the reading takes, are together of bulk at most 1048576: NARROWER than '..Said'. Prove '..Said' where nothing that the law and all that it calls make is longer than what came in: it says more and counts as full. Else prove '..UptoSaid'. A law counts once. -/
mutual
def uptoBulk {H : Type} : DataW H → Nat
  | .lit (.string bytes) => bytes.length + 1
  | .lit _ => 1
  | .nil => 1
  | .ptr d => uptoBulk d + 1
  | .slice elems spare => uptoBulkAll elems + uptoBulkAll spare + 1
  | .agg parts => uptoBulkAll parts + 1
  | .iface _ d => uptoBulk d + 1
  | .map entries => uptoBulkEntries entries + 1
  | .held _ => 1
def uptoBulkAll {H : Type} : List (DataW H) → Nat
  | [] => 0
  | d :: r => uptoBulk d + uptoBulkAll r
def uptoBulkEntries {H : Type} : List (Lit × DataW H) → Nat
  | [] => 0
  | x :: r => uptoBulkEntry x + uptoBulkEntries r
def uptoBulkEntry {H : Type} : Lit × DataW H → Nat
  | (.string bytes, d) => bytes.length + uptoBulk d + 1
  | (_, d) => uptoBulk d + 1
 end
def uptoSmall : (H : Type) → List (DataW H) → Bool := fun _ ds => decide (uptoBulkAll ds ≤ 1048576)
def OpenSpec.upto (s : _root_.Go.ChangeSpec) : _root_.Go.OpenSpec := { _root_.Go.OpenSpec.ofChange s with cond := some uptoSmall }

/-- 'stoalaw05.CellChecks', WHERE WHAT IT READS IS OF BULK AT MOST 1048576: true; the input reads as it did. -/
def cellChecksUptoRow : OpenClaim := { program := "ytaibfjipombilaa", sum := "72d7c0160a4019b82c99a1b17b4955348275dcc00a64258484df991cad77e734", func := "stoa/stoalaw05.CellChecks", spec := "cellChecks", inPlace := ["internal/bytealg.IndexByte", "internal/bytealg.Compare"], apart := false, narrowed := true }
def CellChecksUptoSaid : Prop := cellChecksUptoRow.holds Try.pinned (OpenSpec.upto cellChecksSpec)

/-- 'stoalaw05.CellPuts', WHERE WHAT IT READS IS OF BULK AT MOST 1048576: true; the input reads as it did. -/
def cellPutsUptoRow : OpenClaim := { program := "ytaibfjipombilaa", sum := "72d7c0160a4019b82c99a1b17b4955348275dcc00a64258484df991cad77e734", func := "stoa/stoalaw05.CellPuts", spec := "cellPuts", inPlace := ["internal/bytealg.IndexByte", "internal/bytealg.Compare"], apart := false, narrowed := true }
def CellPutsUptoSaid : Prop := cellPutsUptoRow.holds Try.pinned (OpenSpec.upto cellPutsSpec)

/-- 'stoalaw05.CellGets', WHERE WHAT IT READS IS OF BULK AT MOST 1048576: true; the input reads as it did. -/
def cellGetsUptoRow : OpenClaim := { program := "ytaibfjipombilaa", sum := "72d7c0160a4019b82c99a1b17b4955348275dcc00a64258484df991cad77e734", func := "stoa/stoalaw05.CellGets", spec := "cellGets", inPlace := ["internal/bytealg.IndexByte", "internal/bytealg.Compare"], apart := false, narrowed := true }
def CellGetsUptoSaid : Prop := cellGetsUptoRow.holds Try.pinned (OpenSpec.upto cellGetsSpec)

/-- 'stoalaw05.CellBack', WHERE WHAT IT READS IS OF BULK AT MOST 1048576: true; the input reads as it did. -/
def cellBackUptoRow : OpenClaim := { program := "ytaibfjipombilaa", sum := "72d7c0160a4019b82c99a1b17b4955348275dcc00a64258484df991cad77e734", func := "stoa/stoalaw05.CellBack", spec := "cellBack", inPlace := ["internal/bytealg.IndexByte", "internal/bytealg.Compare"], apart := false, narrowed := true }
def CellBackUptoSaid : Prop := cellBackUptoRow.holds Try.pinned (OpenSpec.upto cellBackSpec)

/-- 'stoalaw05.CellOnly', WHERE WHAT IT READS IS OF BULK AT MOST 1048576: true; the input reads as it did. -/
def cellOnlyUptoRow : OpenClaim := { program := "ytaibfjipombilaa", sum := "72d7c0160a4019b82c99a1b17b4955348275dcc00a64258484df991cad77e734", func := "stoa/stoalaw05.CellOnly", spec := "cellOnly", inPlace := ["internal/bytealg.IndexByte", "internal/bytealg.Compare"], apart := false, narrowed := true }
def CellOnlyUptoSaid : Prop := cellOnlyUptoRow.holds Try.pinned (OpenSpec.upto cellOnlySpec)

/-- 'stoalaw05.CellOrders', WHERE WHAT IT READS IS OF BULK AT MOST 1048576: true; the input reads as it did. -/
def cellOrdersUptoRow : OpenClaim := { program := "ytaibfjipombilaa", sum := "72d7c0160a4019b82c99a1b17b4955348275dcc00a64258484df991cad77e734", func := "stoa/stoalaw05.CellOrders", spec := "cellOrders", inPlace := ["internal/bytealg.IndexByte", "internal/bytealg.Compare"], apart := false, narrowed := true }
def CellOrdersUptoSaid : Prop := cellOrdersUptoRow.holds Try.pinned (OpenSpec.upto cellOrdersSpec)

end Rows
end Go.Proofs.Ytaibfjipombilaa
