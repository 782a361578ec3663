/-
  No cell of these rows narrows 'for every input' (looked for: loops, veiled, ifaces, maps, wideKeys, modest, calm, conditions, laid).
  DERIVED. THE GIVEN ROWS OF THIS SEAT. 4 by the template 'for every input the law returns true; each argument reads behind the call as it read before'; 0 by the template 'total and deterministic' (their statements: YtpfkebjjbhnehaaTotals.lean).
  GIVEN WITH THE SEED: the statements are not yours to turn. If you find one false, say at which input.
  Laid BY PROGRAM, IN A SANDBOX (cutbox-rows.mjs): the forced cells as the released guide's own fill.sh prints them over the translation 83ba3f57aa7fc56f… (all of the seat's roots in one cut). By AI agents, Wed Nov 11 2026. No macro, syntax, notation, axiom, sorry.
-/
import Derived.Test.YtpfkebjjbhnehaaChecked
import GoSem.Claim
import GoSem.ClaimJoined
import GoSem.ClaimMapViews
import Derived.JoinedTies
import Derived.KernelRfl
namespace Go.Proofs.Ytpfkebjjbhnehaa
/- THE CELL 'sum', in the pinned program and in every row, IS THE sha256 OF THE DUMP (.gsa) THAT YtpfkebjjbhnehaaProg.lean LOADS. Nothing in Lean hashes anything: it is a label: what it is worth is what the hold of that sum in a sandbox is worth. -/
noncomputable def Try.pinned : Pinned := { name := "ytpfkebjjbhnehaa", sum := "83ba3f57aa7fc56fe872ca7a4098b69896911db6450b520ea2e9b670d325506d", checked := Try.checked }
namespace Rows
def none {H : Type} : Left H := { results := [], args := [] }

/-- 'stoalaw13.BloomPlays': WHATEVER THE INPUT: true; the input reads as it did. -/
def bloomPlaysSpec : ChangeSpec := { name := "bloomPlays", fn := fun _ => fun
  | [d1, d2, d3] => { results := [.lit (.bool true)], args := [d1, d2, d3] }
  | _ => none }
def bloomPlaysRow : OpenClaim := { program := "ytpfkebjjbhnehaa", sum := "83ba3f57aa7fc56fe872ca7a4098b69896911db6450b520ea2e9b670d325506d", func := "stoa/stoalaw13.BloomPlays", spec := "bloomPlays", unfollowed := true, recurses := true, apart := false }
def BloomPlaysSaid : Prop := bloomPlaysRow.holds Try.pinned (OpenSpec.ofChange bloomPlaysSpec)

/-- ITS FALSE NEIGHBOUR: 'it returns false'. Refute it at one input. -/
def bloomPlaysWrong : ChangeSpec := { name := "bloomPlays", fn := fun _ => fun
  | [d1, d2, d3] => { results := [.lit (.bool false)], args := [d1, d2, d3] }
  | _ => none }
def BloomPlaysWrongFalsely : Prop := bloomPlaysRow.holds Try.pinned (OpenSpec.ofChange bloomPlaysWrong)

/-- 'stoalaw13.BloomDecodes': WHATEVER THE INPUT: true; the input reads as it did. -/
def bloomDecodesSpec : ChangeSpec := { name := "bloomDecodes", fn := fun _ => fun
  | [d1, d2] => { results := [.lit (.bool true)], args := [d1, d2] }
  | _ => none }
def bloomDecodesRow : OpenClaim := { program := "ytpfkebjjbhnehaa", sum := "83ba3f57aa7fc56fe872ca7a4098b69896911db6450b520ea2e9b670d325506d", func := "stoa/stoalaw13.BloomDecodes", spec := "bloomDecodes", unfollowed := true, recurses := true, apart := false }
def BloomDecodesSaid : Prop := bloomDecodesRow.holds Try.pinned (OpenSpec.ofChange bloomDecodesSpec)

/-- ITS FALSE NEIGHBOUR: 'it returns false'. Refute it at one input. -/
def bloomDecodesWrong : ChangeSpec := { name := "bloomDecodes", fn := fun _ => fun
  | [d1, d2] => { results := [.lit (.bool false)], args := [d1, d2] }
  | _ => none }
def BloomDecodesWrongFalsely : Prop := bloomDecodesRow.holds Try.pinned (OpenSpec.ofChange bloomDecodesWrong)

/-- 'stoalaw13.BloomKeeps': WHATEVER THE INPUT: true; the input reads as it did. -/
def bloomKeepsSpec : ChangeSpec := { name := "bloomKeeps", fn := fun _ => fun
  | [d1, d2, d3, d4, d5] => { results := [.lit (.bool true)], args := [d1, d2, d3, d4, d5] }
  | _ => none }
def bloomKeepsRow : OpenClaim := { program := "ytpfkebjjbhnehaa", sum := "83ba3f57aa7fc56fe872ca7a4098b69896911db6450b520ea2e9b670d325506d", func := "stoa/stoalaw13.BloomKeeps", spec := "bloomKeeps", unfollowed := true, recurses := true, apart := false }
def BloomKeepsSaid : Prop := bloomKeepsRow.holds Try.pinned (OpenSpec.ofChange bloomKeepsSpec)

/-- ITS FALSE NEIGHBOUR: 'it returns false'. Refute it at one input. -/
def bloomKeepsWrong : ChangeSpec := { name := "bloomKeeps", fn := fun _ => fun
  | [d1, d2, d3, d4, d5] => { results := [.lit (.bool false)], args := [d1, d2, d3, d4, d5] }
  | _ => none }
def BloomKeepsWrongFalsely : Prop := bloomKeepsRow.holds Try.pinned (OpenSpec.ofChange bloomKeepsWrong)

/-- 'stoalaw13.BloomOrder': WHATEVER THE INPUT: true; the input reads as it did. -/
def bloomOrderSpec : ChangeSpec := { name := "bloomOrder", fn := fun _ => fun
  | [d1, d2, d3, d4] => { results := [.lit (.bool true)], args := [d1, d2, d3, d4] }
  | _ => none }
def bloomOrderRow : OpenClaim := { program := "ytpfkebjjbhnehaa", sum := "83ba3f57aa7fc56fe872ca7a4098b69896911db6450b520ea2e9b670d325506d", func := "stoa/stoalaw13.BloomOrder", spec := "bloomOrder", unfollowed := true, recurses := true, apart := false }
def BloomOrderSaid : Prop := bloomOrderRow.holds Try.pinned (OpenSpec.ofChange bloomOrderSpec)

/-- ITS FALSE NEIGHBOUR: 'it returns false'. Refute it at one input. -/
def bloomOrderWrong : ChangeSpec := { name := "bloomOrder", fn := fun _ => fun
  | [d1, d2, d3, d4] => { results := [.lit (.bool false)], args := [d1, d2, d3, d4] }
  | _ => none }
def BloomOrderWrongFalsely : Prop := bloomOrderRow.holds Try.pinned (OpenSpec.ofChange bloomOrderWrong)

/- THE SECOND FORM. 'bulk': how many values and letters a reading holds, each counted each time it is reached (what is shared counts as often as it is met; a slice's spare places count too). A statement '..UptoSaid' is the law's where the arguments, and the package variables that the reading takes, are together of bulk at most 1048576: NARROWER than '..Said'. Prove '..Said' where nothing that the law and all that it calls make is longer than what came in: it says more and counts as full. Else prove '..UptoSaid'. A law counts once. -/
mutual
def uptoBulk {H : Type} : DataW H → Nat
  | .lit (.string bytes) => bytes.length + 1
  | .lit _ => 1
  | .nil => 1
  | .ptr d => uptoBulk d + 1
  | .slice elems spare => uptoBulkAll elems + uptoBulkAll spare + 1
  | .agg parts => uptoBulkAll parts + 1
  | .iface _ d => uptoBulk d + 1
  | .map entries => uptoBulkEntries entries + 1
  | .held _ => 1
def uptoBulkAll {H : Type} : List (DataW H) → Nat
  | [] => 0
  | d :: r => uptoBulk d + uptoBulkAll r
def uptoBulkEntries {H : Type} : List (Lit × DataW H) → Nat
  | [] => 0
  | x :: r => uptoBulkEntry x + uptoBulkEntries r
def uptoBulkEntry {H : Type} : Lit × DataW H → Nat
  | (.string bytes, d) => bytes.length + uptoBulk d + 1
  | (_, d) => uptoBulk d + 1
 end
def uptoSmall : (H : Type) → List (DataW H) → Bool := fun _ ds => decide (uptoBulkAll ds ≤ 1048576)
def OpenSpec.upto (s : _root_.Go.ChangeSpec) : _root_.Go.OpenSpec := { _root_.Go.OpenSpec.ofChange s with cond := some uptoSmall }

/-- 'stoalaw13.BloomPlays', WHERE WHAT IT READS IS OF BULK AT MOST 1048576: true; the input reads as it did. -/
def bloomPlaysUptoRow : OpenClaim := { program := "ytpfkebjjbhnehaa", sum := "83ba3f57aa7fc56fe872ca7a4098b69896911db6450b520ea2e9b670d325506d", func := "stoa/stoalaw13.BloomPlays", spec := "bloomPlays", unfollowed := true, recurses := true, apart := false, narrowed := true }
def BloomPlaysUptoSaid : Prop := bloomPlaysUptoRow.holds Try.pinned (OpenSpec.upto bloomPlaysSpec)

/-- 'stoalaw13.BloomDecodes', WHERE WHAT IT READS IS OF BULK AT MOST 1048576: true; the input reads as it did. -/
def bloomDecodesUptoRow : OpenClaim := { program := "ytpfkebjjbhnehaa", sum := "83ba3f57aa7fc56fe872ca7a4098b69896911db6450b520ea2e9b670d325506d", func := "stoa/stoalaw13.BloomDecodes", spec := "bloomDecodes", unfollowed := true, recurses := true, apart := false, narrowed := true }
def BloomDecodesUptoSaid : Prop := bloomDecodesUptoRow.holds Try.pinned (OpenSpec.upto bloomDecodesSpec)

/-- 'stoalaw13.BloomKeeps', WHERE WHAT IT READS IS OF BULK AT MOST 1048576: true; the input reads as it did. -/
def bloomKeepsUptoRow : OpenClaim := { program := "ytpfkebjjbhnehaa", sum := "83ba3f57aa7fc56fe872ca7a4098b69896911db6450b520ea2e9b670d325506d", func := "stoa/stoalaw13.BloomKeeps", spec := "bloomKeeps", unfollowed := true, recurses := true, apart := false, narrowed := true }
def BloomKeepsUptoSaid : Prop := bloomKeepsUptoRow.holds Try.pinned (OpenSpec.upto bloomKeepsSpec)

/-- 'stoalaw13.BloomOrder', WHERE WHAT IT READS IS OF BULK AT MOST 1048576: true; the input reads as it did. -/
def bloomOrderUptoRow : OpenClaim := { program := "ytpfkebjjbhnehaa", sum := "83ba3f57aa7fc56fe872ca7a4098b69896911db6450b520ea2e9b670d325506d", func := "stoa/stoalaw13.BloomOrder", spec := "bloomOrder", unfollowed := true, recurses := true, apart := false, narrowed := true }
def BloomOrderUptoSaid : Prop := bloomOrderUptoRow.holds Try.pinned (OpenSpec.upto bloomOrderSpec)

end Rows
end Go.Proofs.Ytpfkebjjbhnehaa
