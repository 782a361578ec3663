/-
  No cell of these rows narrows 'for every input' (looked for: loops, veiled, ifaces, maps, wideKeys, modest, calm, conditions, laid).
  DERIVED. THE GIVEN ROWS OF THIS SEAT. 4 by the template 'for every input the law returns true; each argument reads behind the call as it read before'; 0 by the template 'total and deterministic' (their statements: YtjjldepikokogaaTotals.lean).
  GIVEN WITH THE SEED: the statements are not yours to turn. If you find one false, say at which input.
  Laid BY PROGRAM, IN A SANDBOX (cutbox-rows.mjs): the forced cells as the released guide's own fill.sh prints them over the translation 7d57e2c721f6180c… (all of the seat's roots in one cut). By AI agents, Wed Nov 11 2026. No macro, syntax, notation, axiom, sorry.
-/
import Derived.Test.YtjjldepikokogaaChecked
import GoSem.Claim
import GoSem.ClaimJoined
import GoSem.ClaimMapViews
import Derived.JoinedTies
import Derived.KernelRfl
namespace Go.Proofs.Ytjjldepikokogaa
/- THE CELL 'sum', in the pinned program and in every row, IS THE sha256 OF THE DUMP (.gsa) THAT YtjjldepikokogaaProg.lean LOADS. Nothing in Lean hashes anything: it is a label: what it is worth is what the hold of that sum in a sandbox is worth. -/
noncomputable def Try.pinned : Pinned := { name := "ytjjldepikokogaa", sum := "7d57e2c721f6180cefc83d48677ac7d52eab0493957174dd74b05d41da55f131", checked := Try.checked }
namespace Rows
def none {H : Type} : Left H := { results := [], args := [] }

/-- 'stoalaw11.PrefixEncodes': WHATEVER THE INPUT: true; the input reads as it did. -/
def prefixEncodesSpec : ChangeSpec := { name := "prefixEncodes", fn := fun _ => fun
  | [d] => { results := [.lit (.bool true)], args := [d] }
  | _ => none }
def prefixEncodesRow : OpenClaim := { program := "ytjjldepikokogaa", sum := "7d57e2c721f6180cefc83d48677ac7d52eab0493957174dd74b05d41da55f131", func := "stoa/stoalaw11.PrefixEncodes", spec := "prefixEncodes", inPlace := ["internal/bytealg.Compare"], apart := false }
def PrefixEncodesSaid : Prop := prefixEncodesRow.holds Try.pinned (OpenSpec.ofChange prefixEncodesSpec)

/-- ITS FALSE NEIGHBOUR: 'it returns false'. Refute it at one input. -/
def prefixEncodesWrong : ChangeSpec := { name := "prefixEncodes", fn := fun _ => fun
  | [d] => { results := [.lit (.bool false)], args := [d] }
  | _ => none }
def PrefixEncodesWrongFalsely : Prop := prefixEncodesRow.holds Try.pinned (OpenSpec.ofChange prefixEncodesWrong)

/-- 'stoalaw11.PrefixDecodes': WHATEVER THE INPUT: true; the input reads as it did. -/
def prefixDecodesSpec : ChangeSpec := { name := "prefixDecodes", fn := fun _ => fun
  | [d1, d2] => { results := [.lit (.bool true)], args := [d1, d2] }
  | _ => none }
def prefixDecodesRow : OpenClaim := { program := "ytjjldepikokogaa", sum := "7d57e2c721f6180cefc83d48677ac7d52eab0493957174dd74b05d41da55f131", func := "stoa/stoalaw11.PrefixDecodes", spec := "prefixDecodes", inPlace := ["internal/bytealg.Compare"], apart := false }
def PrefixDecodesSaid : Prop := prefixDecodesRow.holds Try.pinned (OpenSpec.ofChange prefixDecodesSpec)

/-- ITS FALSE NEIGHBOUR: 'it returns false'. Refute it at one input. -/
def prefixDecodesWrong : ChangeSpec := { name := "prefixDecodes", fn := fun _ => fun
  | [d1, d2] => { results := [.lit (.bool false)], args := [d1, d2] }
  | _ => none }
def PrefixDecodesWrongFalsely : Prop := prefixDecodesRow.holds Try.pinned (OpenSpec.ofChange prefixDecodesWrong)

/-- 'stoalaw11.PrefixBack': WHATEVER THE INPUT: true; the input reads as it did. -/
def prefixBackSpec : ChangeSpec := { name := "prefixBack", fn := fun _ => fun
  | [d1, d2] => { results := [.lit (.bool true)], args := [d1, d2] }
  | _ => none }
def prefixBackRow : OpenClaim := { program := "ytjjldepikokogaa", sum := "7d57e2c721f6180cefc83d48677ac7d52eab0493957174dd74b05d41da55f131", func := "stoa/stoalaw11.PrefixBack", spec := "prefixBack", inPlace := ["internal/bytealg.Compare"], apart := false }
def PrefixBackSaid : Prop := prefixBackRow.holds Try.pinned (OpenSpec.ofChange prefixBackSpec)

/-- ITS FALSE NEIGHBOUR: 'it returns false'. Refute it at one input. -/
def prefixBackWrong : ChangeSpec := { name := "prefixBack", fn := fun _ => fun
  | [d1, d2] => { results := [.lit (.bool false)], args := [d1, d2] }
  | _ => none }
def PrefixBackWrongFalsely : Prop := prefixBackRow.holds Try.pinned (OpenSpec.ofChange prefixBackWrong)

/-- 'stoalaw11.PrefixSeeks': WHATEVER THE INPUT: true; the input reads as it did. -/
def prefixSeeksSpec : ChangeSpec := { name := "prefixSeeks", fn := fun _ => fun
  | [d1, d2] => { results := [.lit (.bool true)], args := [d1, d2] }
  | _ => none }
def prefixSeeksRow : OpenClaim := { program := "ytjjldepikokogaa", sum := "7d57e2c721f6180cefc83d48677ac7d52eab0493957174dd74b05d41da55f131", func := "stoa/stoalaw11.PrefixSeeks", spec := "prefixSeeks", inPlace := ["internal/bytealg.Compare"], apart := false }
def PrefixSeeksSaid : Prop := prefixSeeksRow.holds Try.pinned (OpenSpec.ofChange prefixSeeksSpec)

/-- ITS FALSE NEIGHBOUR: 'it returns false'. Refute it at one input. -/
def prefixSeeksWrong : ChangeSpec := { name := "prefixSeeks", fn := fun _ => fun
  | [d1, d2] => { results := [.lit (.bool false)], args := [d1, d2] }
  | _ => none }
def PrefixSeeksWrongFalsely : Prop := prefixSeeksRow.holds Try.pinned (OpenSpec.ofChange prefixSeeksWrong)

/- THE SECOND FORM. 'bulk': how many values and letters a reading holds, each counted each time it is reached (what is shared counts as often as it is met; a slice's spare places count too). A statement '..UptoSaid' is the law's where the arguments, and the package variables that the reading takes, are together of bulk at most 1048576: NARROWER than '..Said'. Prove '..Said' where nothing that the law and all that it calls make is longer than what came in: it says more and counts as full. Else prove '..UptoSaid'. A law counts once. -/
mutual
def uptoBulk {H : Type} : DataW H → Nat
  | .lit (.string bytes) => bytes.length + 1
  | .lit _ => 1
  | .nil => 1
  | .ptr d => uptoBulk d + 1
  | .slice elems spare => uptoBulkAll elems + uptoBulkAll spare + 1
  | .agg parts => uptoBulkAll parts + 1
  | .iface _ d => uptoBulk d + 1
  | .map entries => uptoBulkEntries entries + 1
  | .held _ => 1
def uptoBulkAll {H : Type} : List (DataW H) → Nat
  | [] => 0
  | d :: r => uptoBulk d + uptoBulkAll r
def uptoBulkEntries {H : Type} : List (Lit × DataW H) → Nat
  | [] => 0
  | x :: r => uptoBulkEntry x + uptoBulkEntries r
def uptoBulkEntry {H : Type} : Lit × DataW H → Nat
  | (.string bytes, d) => bytes.length + uptoBulk d + 1
  | (_, d) => uptoBulk d + 1
 end
def uptoSmall : (H : Type) → List (DataW H) → Bool := fun _ ds => decide (uptoBulkAll ds ≤ 1048576)
def OpenSpec.upto (s : _root_.Go.ChangeSpec) : _root_.Go.OpenSpec := { _root_.Go.OpenSpec.ofChange s with cond := some uptoSmall }

/-- 'stoalaw11.PrefixEncodes', WHERE WHAT IT READS IS OF BULK AT MOST 1048576: true; the input reads as it did. -/
def prefixEncodesUptoRow : OpenClaim := { program := "ytjjldepikokogaa", sum := "7d57e2c721f6180cefc83d48677ac7d52eab0493957174dd74b05d41da55f131", func := "stoa/stoalaw11.PrefixEncodes", spec := "prefixEncodes", inPlace := ["internal/bytealg.Compare"], apart := false, narrowed := true }
def PrefixEncodesUptoSaid : Prop := prefixEncodesUptoRow.holds Try.pinned (OpenSpec.upto prefixEncodesSpec)

/-- 'stoalaw11.PrefixDecodes', WHERE WHAT IT READS IS OF BULK AT MOST 1048576: true; the input reads as it did. -/
def prefixDecodesUptoRow : OpenClaim := { program := "ytjjldepikokogaa", sum := "7d57e2c721f6180cefc83d48677ac7d52eab0493957174dd74b05d41da55f131", func := "stoa/stoalaw11.PrefixDecodes", spec := "prefixDecodes", inPlace := ["internal/bytealg.Compare"], apart := false, narrowed := true }
def PrefixDecodesUptoSaid : Prop := prefixDecodesUptoRow.holds Try.pinned (OpenSpec.upto prefixDecodesSpec)

/-- 'stoalaw11.PrefixBack', WHERE WHAT IT READS IS OF BULK AT MOST 1048576: true; the input reads as it did. -/
def prefixBackUptoRow : OpenClaim := { program := "ytjjldepikokogaa", sum := "7d57e2c721f6180cefc83d48677ac7d52eab0493957174dd74b05d41da55f131", func := "stoa/stoalaw11.PrefixBack", spec := "prefixBack", inPlace := ["internal/bytealg.Compare"], apart := false, narrowed := true }
def PrefixBackUptoSaid : Prop := prefixBackUptoRow.holds Try.pinned (OpenSpec.upto prefixBackSpec)

/-- 'stoalaw11.PrefixSeeks', WHERE WHAT IT READS IS OF BULK AT MOST 1048576: true; the input reads as it did. -/
def prefixSeeksUptoRow : OpenClaim := { program := "ytjjldepikokogaa", sum := "7d57e2c721f6180cefc83d48677ac7d52eab0493957174dd74b05d41da55f131", func := "stoa/stoalaw11.PrefixSeeks", spec := "prefixSeeks", inPlace := ["internal/bytealg.Compare"], apart := false, narrowed := true }
def PrefixSeeksUptoSaid : Prop := prefixSeeksUptoRow.holds Try.pinned (OpenSpec.upto prefixSeeksSpec)

end Rows
end Go.Proofs.Ytjjldepikokogaa
