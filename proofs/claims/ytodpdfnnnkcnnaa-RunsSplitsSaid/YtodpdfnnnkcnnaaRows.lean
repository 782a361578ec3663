/-
  No cell of these rows narrows 'for every input' (looked for: loops, veiled, ifaces, maps, wideKeys, modest, calm, conditions, laid).
  DERIVED. THE GIVEN ROWS OF THIS SEAT. 5 by the template 'for every input the law returns true; each argument reads behind the call as it read before'; 0 by the template 'total and deterministic' (their statements: YtodpdfnnnkcnnaaTotals.lean).
  GIVEN WITH THE SEED: the statements are not yours to turn. If you find one false, say at which input.
  Laid BY PROGRAM, IN A SANDBOX (cutbox-rows.mjs): the forced cells as the released guide's own fill.sh prints them over the translation 1396aea4df9be176… (all of the seat's roots in one cut). By AI agents, Wed Nov 11 2026. No macro, syntax, notation, axiom, sorry.
-/
import Derived.Test.YtodpdfnnnkcnnaaChecked
import GoSem.Claim
import GoSem.ClaimJoined
import GoSem.ClaimMapViews
import Derived.JoinedTies
import Derived.KernelRfl
namespace Go.Proofs.Ytodpdfnnnkcnnaa
/- THE CELL 'sum', in the pinned program and in every row, IS THE sha256 OF THE DUMP (.gsa) THAT YtodpdfnnnkcnnaaProg.lean LOADS. Nothing in Lean hashes anything: it is a label: what it is worth is what the hold of that sum in a sandbox is worth. -/
noncomputable def Try.pinned : Pinned := { name := "ytodpdfnnnkcnnaa", sum := "1396aea4df9be176ca5002536a6f59942bcf0b49daec6f5fabc44a78eda718ae", checked := Try.checked }
namespace Rows
def none {H : Type} : Left H := { results := [], args := [] }

/-- 'stoalaw08.RunsSplits': WHATEVER THE INPUT: true; the input reads as it did. -/
def runsSplitsSpec : ChangeSpec := { name := "runsSplits", fn := fun _ => fun
  | [d] => { results := [.lit (.bool true)], args := [d] }
  | _ => none }
def runsSplitsRow : OpenClaim := { program := "ytodpdfnnnkcnnaa", sum := "1396aea4df9be176ca5002536a6f59942bcf0b49daec6f5fabc44a78eda718ae", func := "stoa/stoalaw08.RunsSplits", spec := "runsSplits", apart := false }
def RunsSplitsSaid : Prop := runsSplitsRow.holds Try.pinned (OpenSpec.ofChange runsSplitsSpec)

/-- ITS FALSE NEIGHBOUR: 'it returns false'. Refute it at one input. -/
def runsSplitsWrong : ChangeSpec := { name := "runsSplits", fn := fun _ => fun
  | [d] => { results := [.lit (.bool false)], args := [d] }
  | _ => none }
def RunsSplitsWrongFalsely : Prop := runsSplitsRow.holds Try.pinned (OpenSpec.ofChange runsSplitsWrong)

/-- 'stoalaw08.RunsJoins': WHATEVER THE INPUT: true; the input reads as it did. -/
def runsJoinsSpec : ChangeSpec := { name := "runsJoins", fn := fun _ => fun
  | [d] => { results := [.lit (.bool true)], args := [d] }
  | _ => none }
def runsJoinsRow : OpenClaim := { program := "ytodpdfnnnkcnnaa", sum := "1396aea4df9be176ca5002536a6f59942bcf0b49daec6f5fabc44a78eda718ae", func := "stoa/stoalaw08.RunsJoins", spec := "runsJoins", apart := false }
def RunsJoinsSaid : Prop := runsJoinsRow.holds Try.pinned (OpenSpec.ofChange runsJoinsSpec)

/-- ITS FALSE NEIGHBOUR: 'it returns false'. Refute it at one input. -/
def runsJoinsWrong : ChangeSpec := { name := "runsJoins", fn := fun _ => fun
  | [d] => { results := [.lit (.bool false)], args := [d] }
  | _ => none }
def RunsJoinsWrongFalsely : Prop := runsJoinsRow.holds Try.pinned (OpenSpec.ofChange runsJoinsWrong)

/-- 'stoalaw08.RunsDecodes': WHATEVER THE INPUT: true; the input reads as it did. -/
def runsDecodesSpec : ChangeSpec := { name := "runsDecodes", fn := fun _ => fun
  | [d] => { results := [.lit (.bool true)], args := [d] }
  | _ => none }
def runsDecodesRow : OpenClaim := { program := "ytodpdfnnnkcnnaa", sum := "1396aea4df9be176ca5002536a6f59942bcf0b49daec6f5fabc44a78eda718ae", func := "stoa/stoalaw08.RunsDecodes", spec := "runsDecodes", apart := false }
def RunsDecodesSaid : Prop := runsDecodesRow.holds Try.pinned (OpenSpec.ofChange runsDecodesSpec)

/-- ITS FALSE NEIGHBOUR: 'it returns false'. Refute it at one input. -/
def runsDecodesWrong : ChangeSpec := { name := "runsDecodes", fn := fun _ => fun
  | [d] => { results := [.lit (.bool false)], args := [d] }
  | _ => none }
def RunsDecodesWrongFalsely : Prop := runsDecodesRow.holds Try.pinned (OpenSpec.ofChange runsDecodesWrong)

/-- 'stoalaw08.RunsBack': WHATEVER THE INPUT: true; the input reads as it did. -/
def runsBackSpec : ChangeSpec := { name := "runsBack", fn := fun _ => fun
  | [d1, d2] => { results := [.lit (.bool true)], args := [d1, d2] }
  | _ => none }
def runsBackRow : OpenClaim := { program := "ytodpdfnnnkcnnaa", sum := "1396aea4df9be176ca5002536a6f59942bcf0b49daec6f5fabc44a78eda718ae", func := "stoa/stoalaw08.RunsBack", spec := "runsBack", apart := false }
def RunsBackSaid : Prop := runsBackRow.holds Try.pinned (OpenSpec.ofChange runsBackSpec)

/-- ITS FALSE NEIGHBOUR: 'it returns false'. Refute it at one input. -/
def runsBackWrong : ChangeSpec := { name := "runsBack", fn := fun _ => fun
  | [d1, d2] => { results := [.lit (.bool false)], args := [d1, d2] }
  | _ => none }
def RunsBackWrongFalsely : Prop := runsBackRow.holds Try.pinned (OpenSpec.ofChange runsBackWrong)

/-- 'stoalaw08.RunsFew': WHATEVER THE INPUT: true; the input reads as it did. -/
def runsFewSpec : ChangeSpec := { name := "runsFew", fn := fun _ => fun
  | [d] => { results := [.lit (.bool true)], args := [d] }
  | _ => none }
def runsFewRow : OpenClaim := { program := "ytodpdfnnnkcnnaa", sum := "1396aea4df9be176ca5002536a6f59942bcf0b49daec6f5fabc44a78eda718ae", func := "stoa/stoalaw08.RunsFew", spec := "runsFew", apart := false }
def RunsFewSaid : Prop := runsFewRow.holds Try.pinned (OpenSpec.ofChange runsFewSpec)

/-- ITS FALSE NEIGHBOUR: 'it returns false'. Refute it at one input. -/
def runsFewWrong : ChangeSpec := { name := "runsFew", fn := fun _ => fun
  | [d] => { results := [.lit (.bool false)], args := [d] }
  | _ => none }
def RunsFewWrongFalsely : Prop := runsFewRow.holds Try.pinned (OpenSpec.ofChange runsFewWrong)

/- THE SECOND FORM. 'bulk': how many values and letters a reading holds, each counted each time it is reached (what is shared counts as often as it is met; a slice's spare places count too). A statement '..UptoSaid' is the law's where the arguments, and the package variables that the reading takes, are together of bulk at most 1048576: NARROWER than '..Said'. Prove '..Said' where nothing that the law and all that it calls make is longer than what came in: it says more and counts as full. Else prove '..UptoSaid'. A law counts once. -/
mutual
def uptoBulk {H : Type} : DataW H → Nat
  | .lit (.string bytes) => bytes.length + 1
  | .lit _ => 1
  | .nil => 1
  | .ptr d => uptoBulk d + 1
  | .slice elems spare => uptoBulkAll elems + uptoBulkAll spare + 1
  | .agg parts => uptoBulkAll parts + 1
  | .iface _ d => uptoBulk d + 1
  | .map entries => uptoBulkEntries entries + 1
  | .held _ => 1
def uptoBulkAll {H : Type} : List (DataW H) → Nat
  | [] => 0
  | d :: r => uptoBulk d + uptoBulkAll r
def uptoBulkEntries {H : Type} : List (Lit × DataW H) → Nat
  | [] => 0
  | x :: r => uptoBulkEntry x + uptoBulkEntries r
def uptoBulkEntry {H : Type} : Lit × DataW H → Nat
  | (.string bytes, d) => bytes.length + uptoBulk d + 1
  | (_, d) => uptoBulk d + 1
 end
def uptoSmall : (H : Type) → List (DataW H) → Bool := fun _ ds => decide (uptoBulkAll ds ≤ 1048576)
def OpenSpec.upto (s : _root_.Go.ChangeSpec) : _root_.Go.OpenSpec := { _root_.Go.OpenSpec.ofChange s with cond := some uptoSmall }

/-- 'stoalaw08.RunsSplits', WHERE WHAT IT READS IS OF BULK AT MOST 1048576: true; the input reads as it did. -/
def runsSplitsUptoRow : OpenClaim := { program := "ytodpdfnnnkcnnaa", sum := "1396aea4df9be176ca5002536a6f59942bcf0b49daec6f5fabc44a78eda718ae", func := "stoa/stoalaw08.RunsSplits", spec := "runsSplits", apart := false, narrowed := true }
def RunsSplitsUptoSaid : Prop := runsSplitsUptoRow.holds Try.pinned (OpenSpec.upto runsSplitsSpec)

/-- 'stoalaw08.RunsJoins', WHERE WHAT IT READS IS OF BULK AT MOST 1048576: true; the input reads as it did. -/
def runsJoinsUptoRow : OpenClaim := { program := "ytodpdfnnnkcnnaa", sum := "1396aea4df9be176ca5002536a6f59942bcf0b49daec6f5fabc44a78eda718ae", func := "stoa/stoalaw08.RunsJoins", spec := "runsJoins", apart := false, narrowed := true }
def RunsJoinsUptoSaid : Prop := runsJoinsUptoRow.holds Try.pinned (OpenSpec.upto runsJoinsSpec)

/-- 'stoalaw08.RunsDecodes', WHERE WHAT IT READS IS OF BULK AT MOST 1048576: true; the input reads as it did. -/
def runsDecodesUptoRow : OpenClaim := { program := "ytodpdfnnnkcnnaa", sum := "1396aea4df9be176ca5002536a6f59942bcf0b49daec6f5fabc44a78eda718ae", func := "stoa/stoalaw08.RunsDecodes", spec := "runsDecodes", apart := false, narrowed := true }
def RunsDecodesUptoSaid : Prop := runsDecodesUptoRow.holds Try.pinned (OpenSpec.upto runsDecodesSpec)

/-- 'stoalaw08.RunsBack', WHERE WHAT IT READS IS OF BULK AT MOST 1048576: true; the input reads as it did. -/
def runsBackUptoRow : OpenClaim := { program := "ytodpdfnnnkcnnaa", sum := "1396aea4df9be176ca5002536a6f59942bcf0b49daec6f5fabc44a78eda718ae", func := "stoa/stoalaw08.RunsBack", spec := "runsBack", apart := false, narrowed := true }
def RunsBackUptoSaid : Prop := runsBackUptoRow.holds Try.pinned (OpenSpec.upto runsBackSpec)

/-- 'stoalaw08.RunsFew', WHERE WHAT IT READS IS OF BULK AT MOST 1048576: true; the input reads as it did. -/
def runsFewUptoRow : OpenClaim := { program := "ytodpdfnnnkcnnaa", sum := "1396aea4df9be176ca5002536a6f59942bcf0b49daec6f5fabc44a78eda718ae", func := "stoa/stoalaw08.RunsFew", spec := "runsFew", apart := false, narrowed := true }
def RunsFewUptoSaid : Prop := runsFewUptoRow.holds Try.pinned (OpenSpec.upto runsFewSpec)

end Rows
end Go.Proofs.Ytodpdfnnnkcnnaa
