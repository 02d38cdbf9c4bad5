/-
  No cell of these rows narrows 'for every input' (looked for: loops, veiled, ifaces, maps, wideKeys, modest, calm, conditions, laid).
  DERIVED. THE GIVEN ROWS OF THIS SEAT. 5 by the template 'for every input the law returns true; each argument reads behind the call as it read before'; 0 by the template 'total and deterministic' (their statements: YtgjoioilpnclpaaTotals.lean).
  GIVEN WITH THE SEED: the statements are not yours to turn. If you find one false, say at which input.
  Laid BY PROGRAM, IN A SANDBOX (cutbox-rows.mjs): the forced cells as the released guide's own fill.sh prints them over the translation 6f443f144693078e… (all of the seat's roots in one cut). By AI agents, Wed Nov 11 2026. No macro, syntax, notation, axiom, sorry.
-/
import Derived.Test.YtgjoioilpnclpaaChecked
import GoSem.Claim
import GoSem.ClaimJoined
import GoSem.ClaimMapViews
import Derived.JoinedTies
import Derived.KernelRfl
namespace Go.Proofs.Ytgjoioilpnclpaa
/- THE CELL 'sum', in the pinned program and in every row, IS THE sha256 OF THE DUMP (.gsa) THAT YtgjoioilpnclpaaProg.lean LOADS. Nothing in Lean hashes anything: it is a label: what it is worth is what the hold of that sum in a sandbox is worth. -/
noncomputable def Try.pinned : Pinned := { name := "ytgjoioilpnclpaa", sum := "6f443f144693078ebf937799e48455f8112aeea08e357e637147db9f4b0e4c23", checked := Try.checked }
namespace Rows
def none {H : Type} : Left H := { results := [], args := [] }

/-- 'vetchlaw01.BytesetMatchesReference': WHATEVER THE INPUT: true; the input reads as it did. -/
def bytesetMatchesReferenceSpec : ChangeSpec := { name := "bytesetMatchesReference", fn := fun _ => fun
  | [d1, d2] => { results := [.lit (.bool true)], args := [d1, d2] }
  | _ => none }
def bytesetMatchesReferenceRow : OpenClaim := { program := "ytgjoioilpnclpaa", sum := "6f443f144693078ebf937799e48455f8112aeea08e357e637147db9f4b0e4c23", func := "vetch/vetchlaw01.BytesetMatchesReference", spec := "bytesetMatchesReference", unfollowed := true, recurses := true, apart := false }
def BytesetMatchesReferenceSaid : Prop := bytesetMatchesReferenceRow.holds Try.pinned (OpenSpec.ofChange bytesetMatchesReferenceSpec)

/-- ITS FALSE NEIGHBOUR: 'it returns false'. Refute it at one input. -/
def bytesetMatchesReferenceWrong : ChangeSpec := { name := "bytesetMatchesReference", fn := fun _ => fun
  | [d1, d2] => { results := [.lit (.bool false)], args := [d1, d2] }
  | _ => none }
def BytesetMatchesReferenceWrongFalsely : Prop := bytesetMatchesReferenceRow.holds Try.pinned (OpenSpec.ofChange bytesetMatchesReferenceWrong)

/-- 'vetchlaw01.BytesetMakes': WHATEVER THE INPUT: true; the input reads as it did. -/
def bytesetMakesSpec : ChangeSpec := { name := "bytesetMakes", fn := fun _ => fun
  | [d1, d2, d3] => { results := [.lit (.bool true)], args := [d1, d2, d3] }
  | _ => none }
def bytesetMakesRow : OpenClaim := { program := "ytgjoioilpnclpaa", sum := "6f443f144693078ebf937799e48455f8112aeea08e357e637147db9f4b0e4c23", func := "vetch/vetchlaw01.BytesetMakes", spec := "bytesetMakes", unfollowed := true, recurses := true, apart := false }
def BytesetMakesSaid : Prop := bytesetMakesRow.holds Try.pinned (OpenSpec.ofChange bytesetMakesSpec)

/-- ITS FALSE NEIGHBOUR: 'it returns false'. Refute it at one input. -/
def bytesetMakesWrong : ChangeSpec := { name := "bytesetMakes", fn := fun _ => fun
  | [d1, d2, d3] => { results := [.lit (.bool false)], args := [d1, d2, d3] }
  | _ => none }
def BytesetMakesWrongFalsely : Prop := bytesetMakesRow.holds Try.pinned (OpenSpec.ofChange bytesetMakesWrong)

/-- 'vetchlaw01.BytesetAgain': WHATEVER THE INPUT: true; the input reads as it did. -/
def bytesetAgainSpec : ChangeSpec := { name := "bytesetAgain", fn := fun _ => fun
  | [d] => { results := [.lit (.bool true)], args := [d] }
  | _ => none }
def bytesetAgainRow : OpenClaim := { program := "ytgjoioilpnclpaa", sum := "6f443f144693078ebf937799e48455f8112aeea08e357e637147db9f4b0e4c23", func := "vetch/vetchlaw01.BytesetAgain", spec := "bytesetAgain", unfollowed := true, recurses := true, apart := false }
def BytesetAgainSaid : Prop := bytesetAgainRow.holds Try.pinned (OpenSpec.ofChange bytesetAgainSpec)

/-- ITS FALSE NEIGHBOUR: 'it returns false'. Refute it at one input. -/
def bytesetAgainWrong : ChangeSpec := { name := "bytesetAgain", fn := fun _ => fun
  | [d] => { results := [.lit (.bool false)], args := [d] }
  | _ => none }
def BytesetAgainWrongFalsely : Prop := bytesetAgainRow.holds Try.pinned (OpenSpec.ofChange bytesetAgainWrong)

/-- 'vetchlaw01.BytesetCombines': WHATEVER THE INPUT: true; the input reads as it did. -/
def bytesetCombinesSpec : ChangeSpec := { name := "bytesetCombines", fn := fun _ => fun
  | [d1, d2] => { results := [.lit (.bool true)], args := [d1, d2] }
  | _ => none }
def bytesetCombinesRow : OpenClaim := { program := "ytgjoioilpnclpaa", sum := "6f443f144693078ebf937799e48455f8112aeea08e357e637147db9f4b0e4c23", func := "vetch/vetchlaw01.BytesetCombines", spec := "bytesetCombines", unfollowed := true, recurses := true, apart := false }
def BytesetCombinesSaid : Prop := bytesetCombinesRow.holds Try.pinned (OpenSpec.ofChange bytesetCombinesSpec)

/-- ITS FALSE NEIGHBOUR: 'it returns false'. Refute it at one input. -/
def bytesetCombinesWrong : ChangeSpec := { name := "bytesetCombines", fn := fun _ => fun
  | [d1, d2] => { results := [.lit (.bool false)], args := [d1, d2] }
  | _ => none }
def BytesetCombinesWrongFalsely : Prop := bytesetCombinesRow.holds Try.pinned (OpenSpec.ofChange bytesetCombinesWrong)

/-- 'vetchlaw01.BytesetLaws': WHATEVER THE INPUT: true; the input reads as it did. -/
def bytesetLawsSpec : ChangeSpec := { name := "bytesetLaws", fn := fun _ => fun
  | [d1, d2, d3] => { results := [.lit (.bool true)], args := [d1, d2, d3] }
  | _ => none }
def bytesetLawsRow : OpenClaim := { program := "ytgjoioilpnclpaa", sum := "6f443f144693078ebf937799e48455f8112aeea08e357e637147db9f4b0e4c23", func := "vetch/vetchlaw01.BytesetLaws", spec := "bytesetLaws", unfollowed := true, recurses := true, apart := false }
def BytesetLawsSaid : Prop := bytesetLawsRow.holds Try.pinned (OpenSpec.ofChange bytesetLawsSpec)

/-- ITS FALSE NEIGHBOUR: 'it returns false'. Refute it at one input. -/
def bytesetLawsWrong : ChangeSpec := { name := "bytesetLaws", fn := fun _ => fun
  | [d1, d2, d3] => { results := [.lit (.bool false)], args := [d1, d2, d3] }
  | _ => none }
def BytesetLawsWrongFalsely : Prop := bytesetLawsRow.holds Try.pinned (OpenSpec.ofChange bytesetLawsWrong)

/- THE SECOND FORM. 'bulk': how many values and letters a reading holds, each counted each time it is reached (what is shared counts as often as it is met; a slice's spare places count too). A statement '..UptoSaid' is the law's where the arguments, and the package variables that the reading takes, are together of bulk at most 1048576: NARROWER than '..Said'. Prove '..Said' where nothing that the law and all that it calls make is longer than what came in: it says more and counts as full. Else prove '..UptoSaid'. A law counts once. -/
mutual
def uptoBulk {H : Type} : DataW H → Nat
  | .lit (.string bytes) => bytes.length + 1
  | .lit _ => 1
  | .nil => 1
  | .ptr d => uptoBulk d + 1
  | .slice elems spare => uptoBulkAll elems + uptoBulkAll spare + 1
  | .agg parts => uptoBulkAll parts + 1
  | .iface _ d => uptoBulk d + 1
  | .map entries => uptoBulkEntries entries + 1
  | .held _ => 1
def uptoBulkAll {H : Type} : List (DataW H) → Nat
  | [] => 0
  | d :: r => uptoBulk d + uptoBulkAll r
def uptoBulkEntries {H : Type} : List (Lit × DataW H) → Nat
  | [] => 0
  | x :: r => uptoBulkEntry x + uptoBulkEntries r
def uptoBulkEntry {H : Type} : Lit × DataW H → Nat
  | (.string bytes, d) => bytes.length + uptoBulk d + 1
  | (_, d) => uptoBulk d + 1
 end
def uptoSmall : (H : Type) → List (DataW H) → Bool := fun _ ds => decide (uptoBulkAll ds ≤ 1048576)
def OpenSpec.upto (s : _root_.Go.ChangeSpec) : _root_.Go.OpenSpec := { _root_.Go.OpenSpec.ofChange s with cond := some uptoSmall }

/-- 'vetchlaw01.BytesetMatchesReference', WHERE WHAT IT READS IS OF BULK AT MOST 1048576: true; the input reads as it did. -/
def bytesetMatchesReferenceUptoRow : OpenClaim := { program := "ytgjoioilpnclpaa", sum := "6f443f144693078ebf937799e48455f8112aeea08e357e637147db9f4b0e4c23", func := "vetch/vetchlaw01.BytesetMatchesReference", spec := "bytesetMatchesReference", unfollowed := true, recurses := true, apart := false, narrowed := true }
def BytesetMatchesReferenceUptoSaid : Prop := bytesetMatchesReferenceUptoRow.holds Try.pinned (OpenSpec.upto bytesetMatchesReferenceSpec)

/-- 'vetchlaw01.BytesetMakes', WHERE WHAT IT READS IS OF BULK AT MOST 1048576: true; the input reads as it did. -/
def bytesetMakesUptoRow : OpenClaim := { program := "ytgjoioilpnclpaa", sum := "6f443f144693078ebf937799e48455f8112aeea08e357e637147db9f4b0e4c23", func := "vetch/vetchlaw01.BytesetMakes", spec := "bytesetMakes", unfollowed := true, recurses := true, apart := false, narrowed := true }
def BytesetMakesUptoSaid : Prop := bytesetMakesUptoRow.holds Try.pinned (OpenSpec.upto bytesetMakesSpec)

/-- 'vetchlaw01.BytesetAgain', WHERE WHAT IT READS IS OF BULK AT MOST 1048576: true; the input reads as it did. -/
def bytesetAgainUptoRow : OpenClaim := { program := "ytgjoioilpnclpaa", sum := "6f443f144693078ebf937799e48455f8112aeea08e357e637147db9f4b0e4c23", func := "vetch/vetchlaw01.BytesetAgain", spec := "bytesetAgain", unfollowed := true, recurses := true, apart := false, narrowed := true }
def BytesetAgainUptoSaid : Prop := bytesetAgainUptoRow.holds Try.pinned (OpenSpec.upto bytesetAgainSpec)

/-- 'vetchlaw01.BytesetCombines', WHERE WHAT IT READS IS OF BULK AT MOST 1048576: true; the input reads as it did. -/
def bytesetCombinesUptoRow : OpenClaim := { program := "ytgjoioilpnclpaa", sum := "6f443f144693078ebf937799e48455f8112aeea08e357e637147db9f4b0e4c23", func := "vetch/vetchlaw01.BytesetCombines", spec := "bytesetCombines", unfollowed := true, recurses := true, apart := false, narrowed := true }
def BytesetCombinesUptoSaid : Prop := bytesetCombinesUptoRow.holds Try.pinned (OpenSpec.upto bytesetCombinesSpec)

/-- 'vetchlaw01.BytesetLaws', WHERE WHAT IT READS IS OF BULK AT MOST 1048576: true; the input reads as it did. -/
def bytesetLawsUptoRow : OpenClaim := { program := "ytgjoioilpnclpaa", sum := "6f443f144693078ebf937799e48455f8112aeea08e357e637147db9f4b0e4c23", func := "vetch/vetchlaw01.BytesetLaws", spec := "bytesetLaws", unfollowed := true, recurses := true, apart := false, narrowed := true }
def BytesetLawsUptoSaid : Prop := bytesetLawsUptoRow.holds Try.pinned (OpenSpec.upto bytesetLawsSpec)

end Rows
end Go.Proofs.Ytgjoioilpnclpaa
