/-
  No cell of these rows narrows 'for every input' (looked for: loops, veiled, ifaces, maps, wideKeys, modest, calm, conditions, laid).
  DERIVED. THE GIVEN ROWS OF THIS SEAT. 4 by the template 'for every input the law returns true; each argument reads behind the call as it read before'; 0 by the template 'total and deterministic' (their statements: YtdfcbophcfjakaaTotals.lean).
  GIVEN WITH THE SEED: the statements are not yours to turn. If you find one false, say at which input.
  Laid BY PROGRAM, IN A SANDBOX (cutbox-rows.mjs): the forced cells as the released guide's own fill.sh prints them over the translation 23a6e5c2925e44a4… (all of the seat's roots in one cut). By AI agents, Wed Nov 11 2026. No macro, syntax, notation, axiom, sorry.
-/
import Derived.Test.YtdfcbophcfjakaaChecked
import GoSem.Claim
import GoSem.ClaimJoined
import GoSem.ClaimMapViews
import Derived.JoinedTies
import Derived.KernelRfl
namespace Go.Proofs.Ytdfcbophcfjakaa
/- THE CELL 'sum', in the pinned program and in every row, IS THE sha256 OF THE DUMP (.gsa) THAT YtdfcbophcfjakaaProg.lean LOADS. Nothing in Lean hashes anything: it is a label: what it is worth is what the hold of that sum in a sandbox is worth. -/
noncomputable def Try.pinned : Pinned := { name := "ytdfcbophcfjakaa", sum := "23a6e5c2925e44a4d17420dcc5714fbfd729f4f39623cc0c5773eac849cdb87b", checked := Try.checked }
namespace Rows
def none {H : Type} : Left H := { results := [], args := [] }

/-- 'stoalaw18.SkipPlays': WHATEVER THE INPUT: true; the input reads as it did. -/
def skipPlaysSpec : ChangeSpec := { name := "skipPlays", fn := fun _ => fun
  | [d1, d2] => { results := [.lit (.bool true)], args := [d1, d2] }
  | _ => none }
def skipPlaysRow : OpenClaim := { program := "ytdfcbophcfjakaa", sum := "23a6e5c2925e44a4d17420dcc5714fbfd729f4f39623cc0c5773eac849cdb87b", func := "stoa/stoalaw18.SkipPlays", spec := "skipPlays", inPlace := ["internal/bytealg.Compare"], unfollowed := true, recurses := true, apart := false }
def SkipPlaysSaid : Prop := skipPlaysRow.holds Try.pinned (OpenSpec.ofChange skipPlaysSpec)

/-- ITS FALSE NEIGHBOUR: 'it returns false'. Refute it at one input. -/
def skipPlaysWrong : ChangeSpec := { name := "skipPlays", fn := fun _ => fun
  | [d1, d2] => { results := [.lit (.bool false)], args := [d1, d2] }
  | _ => none }
def SkipPlaysWrongFalsely : Prop := skipPlaysRow.holds Try.pinned (OpenSpec.ofChange skipPlaysWrong)

/-- 'stoalaw18.SkipHeights': WHATEVER THE INPUT: true; the input reads as it did. -/
def skipHeightsSpec : ChangeSpec := { name := "skipHeights", fn := fun _ => fun
  | [d1, d2, d3, d4, d5] => { results := [.lit (.bool true)], args := [d1, d2, d3, d4, d5] }
  | _ => none }
def skipHeightsRow : OpenClaim := { program := "ytdfcbophcfjakaa", sum := "23a6e5c2925e44a4d17420dcc5714fbfd729f4f39623cc0c5773eac849cdb87b", func := "stoa/stoalaw18.SkipHeights", spec := "skipHeights", inPlace := ["internal/bytealg.Compare"], unfollowed := true, recurses := true, apart := false }
def SkipHeightsSaid : Prop := skipHeightsRow.holds Try.pinned (OpenSpec.ofChange skipHeightsSpec)

/-- ITS FALSE NEIGHBOUR: 'it returns false'. Refute it at one input. -/
def skipHeightsWrong : ChangeSpec := { name := "skipHeights", fn := fun _ => fun
  | [d1, d2, d3, d4, d5] => { results := [.lit (.bool false)], args := [d1, d2, d3, d4, d5] }
  | _ => none }
def SkipHeightsWrongFalsely : Prop := skipHeightsRow.holds Try.pinned (OpenSpec.ofChange skipHeightsWrong)

/-- 'stoalaw18.SkipHolds': WHATEVER THE INPUT: true; the input reads as it did. -/
def skipHoldsSpec : ChangeSpec := { name := "skipHolds", fn := fun _ => fun
  | [d1, d2, d3] => { results := [.lit (.bool true)], args := [d1, d2, d3] }
  | _ => none }
def skipHoldsRow : OpenClaim := { program := "ytdfcbophcfjakaa", sum := "23a6e5c2925e44a4d17420dcc5714fbfd729f4f39623cc0c5773eac849cdb87b", func := "stoa/stoalaw18.SkipHolds", spec := "skipHolds", inPlace := ["internal/bytealg.Compare"], unfollowed := true, recurses := true, apart := false }
def SkipHoldsSaid : Prop := skipHoldsRow.holds Try.pinned (OpenSpec.ofChange skipHoldsSpec)

/-- ITS FALSE NEIGHBOUR: 'it returns false'. Refute it at one input. -/
def skipHoldsWrong : ChangeSpec := { name := "skipHolds", fn := fun _ => fun
  | [d1, d2, d3] => { results := [.lit (.bool false)], args := [d1, d2, d3] }
  | _ => none }
def SkipHoldsWrongFalsely : Prop := skipHoldsRow.holds Try.pinned (OpenSpec.ofChange skipHoldsWrong)

/-- 'stoalaw18.SkipPages': WHATEVER THE INPUT: true; the input reads as it did. -/
def skipPagesSpec : ChangeSpec := { name := "skipPages", fn := fun _ => fun
  | [d1, d2, d3, d4] => { results := [.lit (.bool true)], args := [d1, d2, d3, d4] }
  | _ => none }
def skipPagesRow : OpenClaim := { program := "ytdfcbophcfjakaa", sum := "23a6e5c2925e44a4d17420dcc5714fbfd729f4f39623cc0c5773eac849cdb87b", func := "stoa/stoalaw18.SkipPages", spec := "skipPages", inPlace := ["internal/bytealg.Compare"], unfollowed := true, recurses := true, apart := false }
def SkipPagesSaid : Prop := skipPagesRow.holds Try.pinned (OpenSpec.ofChange skipPagesSpec)

/-- ITS FALSE NEIGHBOUR: 'it returns false'. Refute it at one input. -/
def skipPagesWrong : ChangeSpec := { name := "skipPages", fn := fun _ => fun
  | [d1, d2, d3, d4] => { results := [.lit (.bool false)], args := [d1, d2, d3, d4] }
  | _ => none }
def SkipPagesWrongFalsely : Prop := skipPagesRow.holds Try.pinned (OpenSpec.ofChange skipPagesWrong)

/- THE SECOND FORM. 'bulk': how many values and letters a reading holds, each counted each time it is reached (what is shared counts as often as it is met; a slice's spare places count too). A statement '..UptoSaid' is the law's where the arguments, and the package variables that the reading takes, are together of bulk at most 1048576: NARROWER than '..Said'. Prove '..Said' where nothing that the law and all that it calls make is longer than what came in: it says more and counts as full. Else prove '..UptoSaid'. A law counts once. -/
mutual
def uptoBulk {H : Type} : DataW H → Nat
  | .lit (.string bytes) => bytes.length + 1
  | .lit _ => 1
  | .nil => 1
  | .ptr d => uptoBulk d + 1
  | .slice elems spare => uptoBulkAll elems + uptoBulkAll spare + 1
  | .agg parts => uptoBulkAll parts + 1
  | .iface _ d => uptoBulk d + 1
  | .map entries => uptoBulkEntries entries + 1
  | .held _ => 1
def uptoBulkAll {H : Type} : List (DataW H) → Nat
  | [] => 0
  | d :: r => uptoBulk d + uptoBulkAll r
def uptoBulkEntries {H : Type} : List (Lit × DataW H) → Nat
  | [] => 0
  | x :: r => uptoBulkEntry x + uptoBulkEntries r
def uptoBulkEntry {H : Type} : Lit × DataW H → Nat
  | (.string bytes, d) => bytes.length + uptoBulk d + 1
  | (_, d) => uptoBulk d + 1
 end
def uptoSmall : (H : Type) → List (DataW H) → Bool := fun _ ds => decide (uptoBulkAll ds ≤ 1048576)
def OpenSpec.upto (s : _root_.Go.ChangeSpec) : _root_.Go.OpenSpec := { _root_.Go.OpenSpec.ofChange s with cond := some uptoSmall }

/-- 'stoalaw18.SkipPlays', WHERE WHAT IT READS IS OF BULK AT MOST 1048576: true; the input reads as it did. -/
def skipPlaysUptoRow : OpenClaim := { program := "ytdfcbophcfjakaa", sum := "23a6e5c2925e44a4d17420dcc5714fbfd729f4f39623cc0c5773eac849cdb87b", func := "stoa/stoalaw18.SkipPlays", spec := "skipPlays", inPlace := ["internal/bytealg.Compare"], unfollowed := true, recurses := true, apart := false, narrowed := true }
def SkipPlaysUptoSaid : Prop := skipPlaysUptoRow.holds Try.pinned (OpenSpec.upto skipPlaysSpec)

/-- 'stoalaw18.SkipHeights', WHERE WHAT IT READS IS OF BULK AT MOST 1048576: true; the input reads as it did. -/
def skipHeightsUptoRow : OpenClaim := { program := "ytdfcbophcfjakaa", sum := "23a6e5c2925e44a4d17420dcc5714fbfd729f4f39623cc0c5773eac849cdb87b", func := "stoa/stoalaw18.SkipHeights", spec := "skipHeights", inPlace := ["internal/bytealg.Compare"], unfollowed := true, recurses := true, apart := false, narrowed := true }
def SkipHeightsUptoSaid : Prop := skipHeightsUptoRow.holds Try.pinned (OpenSpec.upto skipHeightsSpec)

/-- 'stoalaw18.SkipHolds', WHERE WHAT IT READS IS OF BULK AT MOST 1048576: true; the input reads as it did. -/
def skipHoldsUptoRow : OpenClaim := { program := "ytdfcbophcfjakaa", sum := "23a6e5c2925e44a4d17420dcc5714fbfd729f4f39623cc0c5773eac849cdb87b", func := "stoa/stoalaw18.SkipHolds", spec := "skipHolds", inPlace := ["internal/bytealg.Compare"], unfollowed := true, recurses := true, apart := false, narrowed := true }
def SkipHoldsUptoSaid : Prop := skipHoldsUptoRow.holds Try.pinned (OpenSpec.upto skipHoldsSpec)

/-- 'stoalaw18.SkipPages', WHERE WHAT IT READS IS OF BULK AT MOST 1048576: true; the input reads as it did. -/
def skipPagesUptoRow : OpenClaim := { program := "ytdfcbophcfjakaa", sum := "23a6e5c2925e44a4d17420dcc5714fbfd729f4f39623cc0c5773eac849cdb87b", func := "stoa/stoalaw18.SkipPages", spec := "skipPages", inPlace := ["internal/bytealg.Compare"], unfollowed := true, recurses := true, apart := false, narrowed := true }
def SkipPagesUptoSaid : Prop := skipPagesUptoRow.holds Try.pinned (OpenSpec.upto skipPagesSpec)

end Rows
end Go.Proofs.Ytdfcbophcfjakaa
