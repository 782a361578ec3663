/-
  NARROWER THAN 'FOR EVERY INPUT', by the rows' own cells (each row's printed sentence says how): KeysEncodes: laid · KeysDecodes: laid · KeysBounds: laid · KeysOneToOne: laid · KeysOrder: laid · KeysRange: laid · KeysFirst: laid.
  DERIVED. THE GIVEN ROWS OF THIS SEAT. 7 by the template 'for every input the law returns true; each argument reads behind the call as it read before'; 0 by the template 'total and deterministic' (their statements: YtiaihiccaoibgaaDoorTotals.lean).
  GIVEN WITH THE SEED: the statements are not yours to turn. If you find one false, say at which input.
  Laid BY PROGRAM, IN A SANDBOX (cutbox-rows.mjs): the forced cells as the released guide's own fill.sh prints them over the translation 8bb19bddda9f6e3b… (all of the seat's roots in one cut). By AI agents, Wed Nov 11 2026. No macro, syntax, notation, axiom, sorry.
-/
import Derived.Test.YtiaihiccaoibgaaDoorChecked
import GoSem.PinnedTables
import GoSem.Claim
import GoSem.ClaimJoined
import GoSem.ClaimMapViews
import Derived.JoinedTies
import Derived.KernelRfl
namespace Go.Proofs.YtiaihiccaoibgaaDoor
/- THE CELL 'sum', in the pinned program and in every row, IS THE sha256 OF THE DUMP (.gsa) THAT YtiaihiccaoibgaaDoorProg.lean LOADS. Nothing in Lean hashes anything: it is a label: what it is worth is what the hold of that sum in a sandbox is worth. -/
noncomputable def Tryd.pinned : Pinned := { name := "ytiaihiccaoibgaadoor", sum := "8bb19bddda9f6e3b9ee8a843e0b89b1fb69c998270f73addf6a304d74ebdc1ae", checked := Tryd.checked }
namespace Rows
def none {H : Type} : Left H := { results := [], args := [] }

/- WHAT THE LISTED PACKAGE-LEVEL VARIABLES READ AS WHEN THE CALL BEGINS. Each datum BY PROGRAM (the guide's laid-datum.mjs) off the statement by which the dump's own 'gosem.cut.vars' lays the variable. In a bare row this is a premise. The card (YtiaihiccaoibgaaDoorCards.lean) ties it to the program's text. -/
def laid_unicode_utf8_acceptRanges {H : Type} : DataW H := .agg [.agg [.lit (.int .u8 128), .lit (.int .u8 191)], .agg [.lit (.int .u8 160), .lit (.int .u8 191)], .agg [.lit (.int .u8 128), .lit (.int .u8 159)], .agg [.lit (.int .u8 144), .lit (.int .u8 191)], .agg [.lit (.int .u8 128), .lit (.int .u8 143)], .agg [.lit (.int .u8 0), .lit (.int .u8 0)], .agg [.lit (.int .u8 0), .lit (.int .u8 0)], .agg [.lit (.int .u8 0), .lit (.int .u8 0)], .agg [.lit (.int .u8 0), .lit (.int .u8 0)], .agg [.lit (.int .u8 0), .lit (.int .u8 0)], .agg [.lit (.int .u8 0), .lit (.int .u8 0)], .agg [.lit (.int .u8 0), .lit (.int .u8 0)], .agg [.lit (.int .u8 0), .lit (.int .u8 0)], .agg [.lit (.int .u8 0), .lit (.int .u8 0)], .agg [.lit (.int .u8 0), .lit (.int .u8 0)], .agg [.lit (.int .u8 0), .lit (.int .u8 0)]]
/-- One of Go's own tables, pinned by name: the form's constant. -/
def laid_unicode_utf8_first : DataW Unit := Go.Pinned.utf8First

/-- 'stoalaw07.KeysEncodes': WHATEVER THE INPUT: true; the input reads as it did. -/
def keysEncodesSpec : ChangeSpec := { name := "keysEncodes", fn := fun _ => fun
  | [d1, d2] => { results := [.lit (.bool true)], args := [d1, d2] }
  | _ => none }
def keysEncodesRow : OpenClaim := { program := "ytiaihiccaoibgaadoor", sum := "8bb19bddda9f6e3b9ee8a843e0b89b1fb69c998270f73addf6a304d74ebdc1ae", func := "stoa/stoalaw07.KeysEncodes", spec := "keysEncodes", inPlace := ["internal/bytealg.IndexByteString", "internal/bytealg.IndexString", "internal/bytealg.IndexByte", "internal/bytealg.Count", "internal/bytealg.Index", "internal/bytealg.Compare"], named := ["unicode/utf8.first", "unicode/utf8.acceptRanges", "internal/bytealg.MaxLen"], apart := false, laid := [("unicode/utf8.acceptRanges", laid_unicode_utf8_acceptRanges), ("unicode/utf8.first", laid_unicode_utf8_first)] }
def KeysEncodesSaid : Prop := keysEncodesRow.holds Tryd.pinned (OpenSpec.ofChange keysEncodesSpec)

/-- ITS FALSE NEIGHBOUR: 'it returns false'. Refute it at one input. -/
def keysEncodesWrong : ChangeSpec := { name := "keysEncodes", fn := fun _ => fun
  | [d1, d2] => { results := [.lit (.bool false)], args := [d1, d2] }
  | _ => none }
def KeysEncodesWrongFalsely : Prop := keysEncodesRow.holds Tryd.pinned (OpenSpec.ofChange keysEncodesWrong)

/-- 'stoalaw07.KeysDecodes': WHATEVER THE INPUT: true; the input reads as it did. -/
def keysDecodesSpec : ChangeSpec := { name := "keysDecodes", fn := fun _ => fun
  | [d1, d2] => { results := [.lit (.bool true)], args := [d1, d2] }
  | _ => none }
def keysDecodesRow : OpenClaim := { program := "ytiaihiccaoibgaadoor", sum := "8bb19bddda9f6e3b9ee8a843e0b89b1fb69c998270f73addf6a304d74ebdc1ae", func := "stoa/stoalaw07.KeysDecodes", spec := "keysDecodes", inPlace := ["internal/bytealg.IndexByteString", "internal/bytealg.IndexString", "internal/bytealg.IndexByte", "internal/bytealg.Count", "internal/bytealg.Index", "internal/bytealg.Compare"], named := ["unicode/utf8.first", "unicode/utf8.acceptRanges", "internal/bytealg.MaxLen"], apart := false, laid := [("unicode/utf8.acceptRanges", laid_unicode_utf8_acceptRanges), ("unicode/utf8.first", laid_unicode_utf8_first)] }
def KeysDecodesSaid : Prop := keysDecodesRow.holds Tryd.pinned (OpenSpec.ofChange keysDecodesSpec)

/-- ITS FALSE NEIGHBOUR: 'it returns false'. Refute it at one input. -/
def keysDecodesWrong : ChangeSpec := { name := "keysDecodes", fn := fun _ => fun
  | [d1, d2] => { results := [.lit (.bool false)], args := [d1, d2] }
  | _ => none }
def KeysDecodesWrongFalsely : Prop := keysDecodesRow.holds Tryd.pinned (OpenSpec.ofChange keysDecodesWrong)

/-- 'stoalaw07.KeysBounds': WHATEVER THE INPUT: true; the input reads as it did. -/
def keysBoundsSpec : ChangeSpec := { name := "keysBounds", fn := fun _ => fun
  | [d1, d2, d3, d4] => { results := [.lit (.bool true)], args := [d1, d2, d3, d4] }
  | _ => none }
def keysBoundsRow : OpenClaim := { program := "ytiaihiccaoibgaadoor", sum := "8bb19bddda9f6e3b9ee8a843e0b89b1fb69c998270f73addf6a304d74ebdc1ae", func := "stoa/stoalaw07.KeysBounds", spec := "keysBounds", inPlace := ["internal/bytealg.IndexByteString", "internal/bytealg.IndexString", "internal/bytealg.IndexByte", "internal/bytealg.Count", "internal/bytealg.Index", "internal/bytealg.Compare"], named := ["unicode/utf8.first", "unicode/utf8.acceptRanges", "internal/bytealg.MaxLen"], apart := false, laid := [("unicode/utf8.acceptRanges", laid_unicode_utf8_acceptRanges), ("unicode/utf8.first", laid_unicode_utf8_first)] }
def KeysBoundsSaid : Prop := keysBoundsRow.holds Tryd.pinned (OpenSpec.ofChange keysBoundsSpec)

/-- ITS FALSE NEIGHBOUR: 'it returns false'. Refute it at one input. -/
def keysBoundsWrong : ChangeSpec := { name := "keysBounds", fn := fun _ => fun
  | [d1, d2, d3, d4] => { results := [.lit (.bool false)], args := [d1, d2, d3, d4] }
  | _ => none }
def KeysBoundsWrongFalsely : Prop := keysBoundsRow.holds Tryd.pinned (OpenSpec.ofChange keysBoundsWrong)

/-- 'stoalaw07.KeysOneToOne': WHATEVER THE INPUT: true; the input reads as it did. -/
def keysOneToOneSpec : ChangeSpec := { name := "keysOneToOne", fn := fun _ => fun
  | [d1, d2, d3] => { results := [.lit (.bool true)], args := [d1, d2, d3] }
  | _ => none }
def keysOneToOneRow : OpenClaim := { program := "ytiaihiccaoibgaadoor", sum := "8bb19bddda9f6e3b9ee8a843e0b89b1fb69c998270f73addf6a304d74ebdc1ae", func := "stoa/stoalaw07.KeysOneToOne", spec := "keysOneToOne", inPlace := ["internal/bytealg.IndexByteString", "internal/bytealg.IndexString", "internal/bytealg.IndexByte", "internal/bytealg.Count", "internal/bytealg.Index", "internal/bytealg.Compare"], named := ["unicode/utf8.first", "unicode/utf8.acceptRanges", "internal/bytealg.MaxLen"], apart := false, laid := [("unicode/utf8.acceptRanges", laid_unicode_utf8_acceptRanges), ("unicode/utf8.first", laid_unicode_utf8_first)] }
def KeysOneToOneSaid : Prop := keysOneToOneRow.holds Tryd.pinned (OpenSpec.ofChange keysOneToOneSpec)

/-- ITS FALSE NEIGHBOUR: 'it returns false'. Refute it at one input. -/
def keysOneToOneWrong : ChangeSpec := { name := "keysOneToOne", fn := fun _ => fun
  | [d1, d2, d3] => { results := [.lit (.bool false)], args := [d1, d2, d3] }
  | _ => none }
def KeysOneToOneWrongFalsely : Prop := keysOneToOneRow.holds Tryd.pinned (OpenSpec.ofChange keysOneToOneWrong)

/-- 'stoalaw07.KeysOrder': WHATEVER THE INPUT: true; the input reads as it did. -/
def keysOrderSpec : ChangeSpec := { name := "keysOrder", fn := fun _ => fun
  | [d1, d2, d3] => { results := [.lit (.bool true)], args := [d1, d2, d3] }
  | _ => none }
def keysOrderRow : OpenClaim := { program := "ytiaihiccaoibgaadoor", sum := "8bb19bddda9f6e3b9ee8a843e0b89b1fb69c998270f73addf6a304d74ebdc1ae", func := "stoa/stoalaw07.KeysOrder", spec := "keysOrder", inPlace := ["internal/bytealg.IndexByteString", "internal/bytealg.IndexString", "internal/bytealg.IndexByte", "internal/bytealg.Count", "internal/bytealg.Index", "internal/bytealg.Compare"], named := ["unicode/utf8.first", "unicode/utf8.acceptRanges", "internal/bytealg.MaxLen"], apart := false, laid := [("unicode/utf8.acceptRanges", laid_unicode_utf8_acceptRanges), ("unicode/utf8.first", laid_unicode_utf8_first)] }
def KeysOrderSaid : Prop := keysOrderRow.holds Tryd.pinned (OpenSpec.ofChange keysOrderSpec)

/-- ITS FALSE NEIGHBOUR: 'it returns false'. Refute it at one input. -/
def keysOrderWrong : ChangeSpec := { name := "keysOrder", fn := fun _ => fun
  | [d1, d2, d3] => { results := [.lit (.bool false)], args := [d1, d2, d3] }
  | _ => none }
def KeysOrderWrongFalsely : Prop := keysOrderRow.holds Tryd.pinned (OpenSpec.ofChange keysOrderWrong)

/-- 'stoalaw07.KeysRange': WHATEVER THE INPUT: true; the input reads as it did. -/
def keysRangeSpec : ChangeSpec := { name := "keysRange", fn := fun _ => fun
  | [d1, d2, d3, d4, d5] => { results := [.lit (.bool true)], args := [d1, d2, d3, d4, d5] }
  | _ => none }
def keysRangeRow : OpenClaim := { program := "ytiaihiccaoibgaadoor", sum := "8bb19bddda9f6e3b9ee8a843e0b89b1fb69c998270f73addf6a304d74ebdc1ae", func := "stoa/stoalaw07.KeysRange", spec := "keysRange", inPlace := ["internal/bytealg.IndexByteString", "internal/bytealg.IndexString", "internal/bytealg.IndexByte", "internal/bytealg.Count", "internal/bytealg.Index", "internal/bytealg.Compare"], named := ["unicode/utf8.first", "unicode/utf8.acceptRanges", "internal/bytealg.MaxLen"], apart := false, laid := [("unicode/utf8.acceptRanges", laid_unicode_utf8_acceptRanges), ("unicode/utf8.first", laid_unicode_utf8_first)] }
def KeysRangeSaid : Prop := keysRangeRow.holds Tryd.pinned (OpenSpec.ofChange keysRangeSpec)

/-- ITS FALSE NEIGHBOUR: 'it returns false'. Refute it at one input. -/
def keysRangeWrong : ChangeSpec := { name := "keysRange", fn := fun _ => fun
  | [d1, d2, d3, d4, d5] => { results := [.lit (.bool false)], args := [d1, d2, d3, d4, d5] }
  | _ => none }
def KeysRangeWrongFalsely : Prop := keysRangeRow.holds Tryd.pinned (OpenSpec.ofChange keysRangeWrong)

/-- 'stoalaw07.KeysFirst': WHATEVER THE INPUT: true; the input reads as it did. -/
def keysFirstSpec : ChangeSpec := { name := "keysFirst", fn := fun _ => fun
  | [d1, d2, d3, d4] => { results := [.lit (.bool true)], args := [d1, d2, d3, d4] }
  | _ => none }
def keysFirstRow : OpenClaim := { program := "ytiaihiccaoibgaadoor", sum := "8bb19bddda9f6e3b9ee8a843e0b89b1fb69c998270f73addf6a304d74ebdc1ae", func := "stoa/stoalaw07.KeysFirst", spec := "keysFirst", inPlace := ["internal/bytealg.IndexByteString", "internal/bytealg.IndexString", "internal/bytealg.IndexByte", "internal/bytealg.Count", "internal/bytealg.Index", "internal/bytealg.Compare"], named := ["unicode/utf8.first", "unicode/utf8.acceptRanges", "internal/bytealg.MaxLen"], apart := false, laid := [("unicode/utf8.acceptRanges", laid_unicode_utf8_acceptRanges), ("unicode/utf8.first", laid_unicode_utf8_first)] }
def KeysFirstSaid : Prop := keysFirstRow.holds Tryd.pinned (OpenSpec.ofChange keysFirstSpec)

/-- ITS FALSE NEIGHBOUR: 'it returns false'. Refute it at one input. -/
def keysFirstWrong : ChangeSpec := { name := "keysFirst", fn := fun _ => fun
  | [d1, d2, d3, d4] => { results := [.lit (.bool false)], args := [d1, d2, d3, d4] }
  | _ => none }
def KeysFirstWrongFalsely : Prop := keysFirstRow.holds Tryd.pinned (OpenSpec.ofChange keysFirstWrong)

/- THE SECOND FORM. 'bulk': how many values and letters a reading holds, each counted each time it is reached (what is shared counts as often as it is met; a slice's spare places count too). A statement '..UptoSaid' is the law's where the arguments, and the package variables that the reading takes, are together of bulk at most 1048576: NARROWER than '..Said'. Prove '..Said' where nothing that the law and all that it calls make is longer than what came in: it says more and counts as full. Else prove '..UptoSaid'. A law counts once. -/
mutual
def uptoBulk {H : Type} : DataW H → Nat
  | .lit (.string bytes) => bytes.length + 1
  | .lit _ => 1
  | .nil => 1
  | .ptr d => uptoBulk d + 1
  | .slice elems spare => uptoBulkAll elems + uptoBulkAll spare + 1
  | .agg parts => uptoBulkAll parts + 1
  | .iface _ d => uptoBulk d + 1
  | .map entries => uptoBulkEntries entries + 1
  | .held _ => 1
def uptoBulkAll {H : Type} : List (DataW H) → Nat
  | [] => 0
  | d :: r => uptoBulk d + uptoBulkAll r
def uptoBulkEntries {H : Type} : List (Lit × DataW H) → Nat
  | [] => 0
  | x :: r => uptoBulkEntry x + uptoBulkEntries r
def uptoBulkEntry {H : Type} : Lit × DataW H → Nat
  | (.string bytes, d) => bytes.length + uptoBulk d + 1
  | (_, d) => uptoBulk d + 1
 end
def uptoSmall : (H : Type) → List (DataW H) → Bool := fun _ ds => decide (uptoBulkAll ds ≤ 1048576)
def OpenSpec.upto (s : _root_.Go.ChangeSpec) : _root_.Go.OpenSpec := { _root_.Go.OpenSpec.ofChange s with cond := some uptoSmall }

/-- 'stoalaw07.KeysEncodes', WHERE WHAT IT READS IS OF BULK AT MOST 1048576: true; the input reads as it did. -/
def keysEncodesUptoRow : OpenClaim := { program := "ytiaihiccaoibgaadoor", sum := "8bb19bddda9f6e3b9ee8a843e0b89b1fb69c998270f73addf6a304d74ebdc1ae", func := "stoa/stoalaw07.KeysEncodes", spec := "keysEncodes", inPlace := ["internal/bytealg.IndexByteString", "internal/bytealg.IndexString", "internal/bytealg.IndexByte", "internal/bytealg.Count", "internal/bytealg.Index", "internal/bytealg.Compare"], named := ["unicode/utf8.first", "unicode/utf8.acceptRanges", "internal/bytealg.MaxLen"], apart := false, laid := [("unicode/utf8.acceptRanges", laid_unicode_utf8_acceptRanges), ("unicode/utf8.first", laid_unicode_utf8_first)], narrowed := true }
def KeysEncodesUptoSaid : Prop := keysEncodesUptoRow.holds Tryd.pinned (OpenSpec.upto keysEncodesSpec)

/-- 'stoalaw07.KeysDecodes', WHERE WHAT IT READS IS OF BULK AT MOST 1048576: true; the input reads as it did. -/
def keysDecodesUptoRow : OpenClaim := { program := "ytiaihiccaoibgaadoor", sum := "8bb19bddda9f6e3b9ee8a843e0b89b1fb69c998270f73addf6a304d74ebdc1ae", func := "stoa/stoalaw07.KeysDecodes", spec := "keysDecodes", inPlace := ["internal/bytealg.IndexByteString", "internal/bytealg.IndexString", "internal/bytealg.IndexByte", "internal/bytealg.Count", "internal/bytealg.Index", "internal/bytealg.Compare"], named := ["unicode/utf8.first", "unicode/utf8.acceptRanges", "internal/bytealg.MaxLen"], apart := false, laid := [("unicode/utf8.acceptRanges", laid_unicode_utf8_acceptRanges), ("unicode/utf8.first", laid_unicode_utf8_first)], narrowed := true }
def KeysDecodesUptoSaid : Prop := keysDecodesUptoRow.holds Tryd.pinned (OpenSpec.upto keysDecodesSpec)

/-- 'stoalaw07.KeysBounds', WHERE WHAT IT READS IS OF BULK AT MOST 1048576: true; the input reads as it did. -/
def keysBoundsUptoRow : OpenClaim := { program := "ytiaihiccaoibgaadoor", sum := "8bb19bddda9f6e3b9ee8a843e0b89b1fb69c998270f73addf6a304d74ebdc1ae", func := "stoa/stoalaw07.KeysBounds", spec := "keysBounds", inPlace := ["internal/bytealg.IndexByteString", "internal/bytealg.IndexString", "internal/bytealg.IndexByte", "internal/bytealg.Count", "internal/bytealg.Index", "internal/bytealg.Compare"], named := ["unicode/utf8.first", "unicode/utf8.acceptRanges", "internal/bytealg.MaxLen"], apart := false, laid := [("unicode/utf8.acceptRanges", laid_unicode_utf8_acceptRanges), ("unicode/utf8.first", laid_unicode_utf8_first)], narrowed := true }
def KeysBoundsUptoSaid : Prop := keysBoundsUptoRow.holds Tryd.pinned (OpenSpec.upto keysBoundsSpec)

/-- 'stoalaw07.KeysOneToOne', WHERE WHAT IT READS IS OF BULK AT MOST 1048576: true; the input reads as it did. -/
def keysOneToOneUptoRow : OpenClaim := { program := "ytiaihiccaoibgaadoor", sum := "8bb19bddda9f6e3b9ee8a843e0b89b1fb69c998270f73addf6a304d74ebdc1ae", func := "stoa/stoalaw07.KeysOneToOne", spec := "keysOneToOne", inPlace := ["internal/bytealg.IndexByteString", "internal/bytealg.IndexString", "internal/bytealg.IndexByte", "internal/bytealg.Count", "internal/bytealg.Index", "internal/bytealg.Compare"], named := ["unicode/utf8.first", "unicode/utf8.acceptRanges", "internal/bytealg.MaxLen"], apart := false, laid := [("unicode/utf8.acceptRanges", laid_unicode_utf8_acceptRanges), ("unicode/utf8.first", laid_unicode_utf8_first)], narrowed := true }
def KeysOneToOneUptoSaid : Prop := keysOneToOneUptoRow.holds Tryd.pinned (OpenSpec.upto keysOneToOneSpec)

/-- 'stoalaw07.KeysOrder', WHERE WHAT IT READS IS OF BULK AT MOST 1048576: true; the input reads as it did. -/
def keysOrderUptoRow : OpenClaim := { program := "ytiaihiccaoibgaadoor", sum := "8bb19bddda9f6e3b9ee8a843e0b89b1fb69c998270f73addf6a304d74ebdc1ae", func := "stoa/stoalaw07.KeysOrder", spec := "keysOrder", inPlace := ["internal/bytealg.IndexByteString", "internal/bytealg.IndexString", "internal/bytealg.IndexByte", "internal/bytealg.Count", "internal/bytealg.Index", "internal/bytealg.Compare"], named := ["unicode/utf8.first", "unicode/utf8.acceptRanges", "internal/bytealg.MaxLen"], apart := false, laid := [("unicode/utf8.acceptRanges", laid_unicode_utf8_acceptRanges), ("unicode/utf8.first", laid_unicode_utf8_first)], narrowed := true }
def KeysOrderUptoSaid : Prop := keysOrderUptoRow.holds Tryd.pinned (OpenSpec.upto keysOrderSpec)

/-- 'stoalaw07.KeysRange', WHERE WHAT IT READS IS OF BULK AT MOST 1048576: true; the input reads as it did. -/
def keysRangeUptoRow : OpenClaim := { program := "ytiaihiccaoibgaadoor", sum := "8bb19bddda9f6e3b9ee8a843e0b89b1fb69c998270f73addf6a304d74ebdc1ae", func := "stoa/stoalaw07.KeysRange", spec := "keysRange", inPlace := ["internal/bytealg.IndexByteString", "internal/bytealg.IndexString", "internal/bytealg.IndexByte", "internal/bytealg.Count", "internal/bytealg.Index", "internal/bytealg.Compare"], named := ["unicode/utf8.first", "unicode/utf8.acceptRanges", "internal/bytealg.MaxLen"], apart := false, laid := [("unicode/utf8.acceptRanges", laid_unicode_utf8_acceptRanges), ("unicode/utf8.first", laid_unicode_utf8_first)], narrowed := true }
def KeysRangeUptoSaid : Prop := keysRangeUptoRow.holds Tryd.pinned (OpenSpec.upto keysRangeSpec)

/-- 'stoalaw07.KeysFirst', WHERE WHAT IT READS IS OF BULK AT MOST 1048576: true; the input reads as it did. -/
def keysFirstUptoRow : OpenClaim := { program := "ytiaihiccaoibgaadoor", sum := "8bb19bddda9f6e3b9ee8a843e0b89b1fb69c998270f73addf6a304d74ebdc1ae", func := "stoa/stoalaw07.KeysFirst", spec := "keysFirst", inPlace := ["internal/bytealg.IndexByteString", "internal/bytealg.IndexString", "internal/bytealg.IndexByte", "internal/bytealg.Count", "internal/bytealg.Index", "internal/bytealg.Compare"], named := ["unicode/utf8.first", "unicode/utf8.acceptRanges", "internal/bytealg.MaxLen"], apart := false, laid := [("unicode/utf8.acceptRanges", laid_unicode_utf8_acceptRanges), ("unicode/utf8.first", laid_unicode_utf8_first)], narrowed := true }
def KeysFirstUptoSaid : Prop := keysFirstUptoRow.holds Tryd.pinned (OpenSpec.upto keysFirstSpec)

end Rows
end Go.Proofs.YtiaihiccaoibgaaDoor
