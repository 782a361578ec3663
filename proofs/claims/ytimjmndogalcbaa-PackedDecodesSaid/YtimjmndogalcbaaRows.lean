/-
  No cell of these rows narrows 'for every input' (looked for: loops, veiled, ifaces, maps, wideKeys, modest, calm, conditions, laid).
  DERIVED. THE GIVEN ROWS OF THIS SEAT. 4 by the template 'for every input the law returns true; each argument reads behind the call as it read before'; 0 by the template 'total and deterministic' (their statements: YtimjmndogalcbaaTotals.lean).
  GIVEN WITH THE SEED: the statements are not yours to turn. If you find one false, say at which input.
  Laid BY PROGRAM, IN A SANDBOX (cutbox-rows.mjs): the forced cells as the released guide's own fill.sh prints them over the translation 77ef5e543cf92e94… (all of the seat's roots in one cut). By AI agents, Wed Nov 11 2026. No macro, syntax, notation, axiom, sorry.
-/
import Derived.Test.YtimjmndogalcbaaChecked
import GoSem.Claim
import GoSem.ClaimJoined
import GoSem.ClaimMapViews
import Derived.JoinedTies
import Derived.KernelRfl
namespace Go.Proofs.Ytimjmndogalcbaa
/- THE CELL 'sum', in the pinned program and in every row, IS THE sha256 OF THE DUMP (.gsa) THAT YtimjmndogalcbaaProg.lean LOADS. Nothing in Lean hashes anything: it is a label: what it is worth is what the hold of that sum in a sandbox is worth. -/
noncomputable def Try.pinned : Pinned := { name := "ytimjmndogalcbaa", sum := "77ef5e543cf92e948d6d6b74596e63773559975b85177f1e929b0c29bc207920", checked := Try.checked }
namespace Rows
def none {H : Type} : Left H := { results := [], args := [] }

/-- 'stoalaw09.PackedEncodes': WHATEVER THE INPUT: true; the input reads as it did. -/
def packedEncodesSpec : ChangeSpec := { name := "packedEncodes", fn := fun _ => fun
  | [d] => { results := [.lit (.bool true)], args := [d] }
  | _ => none }
def packedEncodesRow : OpenClaim := { program := "ytimjmndogalcbaa", sum := "77ef5e543cf92e948d6d6b74596e63773559975b85177f1e929b0c29bc207920", func := "stoa/stoalaw09.PackedEncodes", spec := "packedEncodes", apart := false }
def PackedEncodesSaid : Prop := packedEncodesRow.holds Try.pinned (OpenSpec.ofChange packedEncodesSpec)

/-- ITS FALSE NEIGHBOUR: 'it returns false'. Refute it at one input. -/
def packedEncodesWrong : ChangeSpec := { name := "packedEncodes", fn := fun _ => fun
  | [d] => { results := [.lit (.bool false)], args := [d] }
  | _ => none }
def PackedEncodesWrongFalsely : Prop := packedEncodesRow.holds Try.pinned (OpenSpec.ofChange packedEncodesWrong)

/-- 'stoalaw09.PackedDecodes': WHATEVER THE INPUT: true; the input reads as it did. -/
def packedDecodesSpec : ChangeSpec := { name := "packedDecodes", fn := fun _ => fun
  | [d] => { results := [.lit (.bool true)], args := [d] }
  | _ => none }
def packedDecodesRow : OpenClaim := { program := "ytimjmndogalcbaa", sum := "77ef5e543cf92e948d6d6b74596e63773559975b85177f1e929b0c29bc207920", func := "stoa/stoalaw09.PackedDecodes", spec := "packedDecodes", apart := false }
def PackedDecodesSaid : Prop := packedDecodesRow.holds Try.pinned (OpenSpec.ofChange packedDecodesSpec)

/-- ITS FALSE NEIGHBOUR: 'it returns false'. Refute it at one input. -/
def packedDecodesWrong : ChangeSpec := { name := "packedDecodes", fn := fun _ => fun
  | [d] => { results := [.lit (.bool false)], args := [d] }
  | _ => none }
def PackedDecodesWrongFalsely : Prop := packedDecodesRow.holds Try.pinned (OpenSpec.ofChange packedDecodesWrong)

/-- 'stoalaw09.PackedBack': WHATEVER THE INPUT: true; the input reads as it did. -/
def packedBackSpec : ChangeSpec := { name := "packedBack", fn := fun _ => fun
  | [d1, d2] => { results := [.lit (.bool true)], args := [d1, d2] }
  | _ => none }
def packedBackRow : OpenClaim := { program := "ytimjmndogalcbaa", sum := "77ef5e543cf92e948d6d6b74596e63773559975b85177f1e929b0c29bc207920", func := "stoa/stoalaw09.PackedBack", spec := "packedBack", apart := false }
def PackedBackSaid : Prop := packedBackRow.holds Try.pinned (OpenSpec.ofChange packedBackSpec)

/-- ITS FALSE NEIGHBOUR: 'it returns false'. Refute it at one input. -/
def packedBackWrong : ChangeSpec := { name := "packedBack", fn := fun _ => fun
  | [d1, d2] => { results := [.lit (.bool false)], args := [d1, d2] }
  | _ => none }
def PackedBackWrongFalsely : Prop := packedBackRow.holds Try.pinned (OpenSpec.ofChange packedBackWrong)

/-- 'stoalaw09.PackedOnly': WHATEVER THE INPUT: true; the input reads as it did. -/
def packedOnlySpec : ChangeSpec := { name := "packedOnly", fn := fun _ => fun
  | [d] => { results := [.lit (.bool true)], args := [d] }
  | _ => none }
def packedOnlyRow : OpenClaim := { program := "ytimjmndogalcbaa", sum := "77ef5e543cf92e948d6d6b74596e63773559975b85177f1e929b0c29bc207920", func := "stoa/stoalaw09.PackedOnly", spec := "packedOnly", apart := false }
def PackedOnlySaid : Prop := packedOnlyRow.holds Try.pinned (OpenSpec.ofChange packedOnlySpec)

/-- ITS FALSE NEIGHBOUR: 'it returns false'. Refute it at one input. -/
def packedOnlyWrong : ChangeSpec := { name := "packedOnly", fn := fun _ => fun
  | [d] => { results := [.lit (.bool false)], args := [d] }
  | _ => none }
def PackedOnlyWrongFalsely : Prop := packedOnlyRow.holds Try.pinned (OpenSpec.ofChange packedOnlyWrong)

/- THE SECOND FORM. 'bulk': how many values and letters a reading holds, each counted each time it is reached (what is shared counts as often as it is met; a slice's spare places count too). A statement '..UptoSaid' is the law's where the arguments, and the package variables that the reading takes, are together of bulk at most 1048576: NARROWER than '..Said'. Prove '..Said' where nothing that the law and all that it calls make is longer than what came in: it says more and counts as full. Else prove '..UptoSaid'. A law counts once. -/
mutual
def uptoBulk {H : Type} : DataW H → Nat
  | .lit (.string bytes) => bytes.length + 1
  | .lit _ => 1
  | .nil => 1
  | .ptr d => uptoBulk d + 1
  | .slice elems spare => uptoBulkAll elems + uptoBulkAll spare + 1
  | .agg parts => uptoBulkAll parts + 1
  | .iface _ d => uptoBulk d + 1
  | .map entries => uptoBulkEntries entries + 1
  | .held _ => 1
def uptoBulkAll {H : Type} : List (DataW H) → Nat
  | [] => 0
  | d :: r => uptoBulk d + uptoBulkAll r
def uptoBulkEntries {H : Type} : List (Lit × DataW H) → Nat
  | [] => 0
  | x :: r => uptoBulkEntry x + uptoBulkEntries r
def uptoBulkEntry {H : Type} : Lit × DataW H → Nat
  | (.string bytes, d) => bytes.length + uptoBulk d + 1
  | (_, d) => uptoBulk d + 1
 end
def uptoSmall : (H : Type) → List (DataW H) → Bool := fun _ ds => decide (uptoBulkAll ds ≤ 1048576)
def OpenSpec.upto (s : _root_.Go.ChangeSpec) : _root_.Go.OpenSpec := { _root_.Go.OpenSpec.ofChange s with cond := some uptoSmall }

/-- 'stoalaw09.PackedEncodes', WHERE WHAT IT READS IS OF BULK AT MOST 1048576: true; the input reads as it did. -/
def packedEncodesUptoRow : OpenClaim := { program := "ytimjmndogalcbaa", sum := "77ef5e543cf92e948d6d6b74596e63773559975b85177f1e929b0c29bc207920", func := "stoa/stoalaw09.PackedEncodes", spec := "packedEncodes", apart := false, narrowed := true }
def PackedEncodesUptoSaid : Prop := packedEncodesUptoRow.holds Try.pinned (OpenSpec.upto packedEncodesSpec)

/-- 'stoalaw09.PackedDecodes', WHERE WHAT IT READS IS OF BULK AT MOST 1048576: true; the input reads as it did. -/
def packedDecodesUptoRow : OpenClaim := { program := "ytimjmndogalcbaa", sum := "77ef5e543cf92e948d6d6b74596e63773559975b85177f1e929b0c29bc207920", func := "stoa/stoalaw09.PackedDecodes", spec := "packedDecodes", apart := false, narrowed := true }
def PackedDecodesUptoSaid : Prop := packedDecodesUptoRow.holds Try.pinned (OpenSpec.upto packedDecodesSpec)

/-- 'stoalaw09.PackedBack', WHERE WHAT IT READS IS OF BULK AT MOST 1048576: true; the input reads as it did. -/
def packedBackUptoRow : OpenClaim := { program := "ytimjmndogalcbaa", sum := "77ef5e543cf92e948d6d6b74596e63773559975b85177f1e929b0c29bc207920", func := "stoa/stoalaw09.PackedBack", spec := "packedBack", apart := false, narrowed := true }
def PackedBackUptoSaid : Prop := packedBackUptoRow.holds Try.pinned (OpenSpec.upto packedBackSpec)

/-- 'stoalaw09.PackedOnly', WHERE WHAT IT READS IS OF BULK AT MOST 1048576: true; the input reads as it did. -/
def packedOnlyUptoRow : OpenClaim := { program := "ytimjmndogalcbaa", sum := "77ef5e543cf92e948d6d6b74596e63773559975b85177f1e929b0c29bc207920", func := "stoa/stoalaw09.PackedOnly", spec := "packedOnly", apart := false, narrowed := true }
def PackedOnlyUptoSaid : Prop := packedOnlyUptoRow.holds Try.pinned (OpenSpec.upto packedOnlySpec)

end Rows
end Go.Proofs.Ytimjmndogalcbaa
