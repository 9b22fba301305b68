/-
  No cell of these rows narrows 'for every input' (looked for: loops, veiled, ifaces, maps, wideKeys, modest, calm, conditions, laid).
  DERIVED. THE GIVEN ROWS OF THIS SEAT. 3 by the template 'for every input the law returns true; each argument reads behind the call as it read before'; 0 by the template 'total and deterministic' (their statements: YthibocafjkbeeaaTotals.lean).
  GIVEN WITH THE SEED: the statements are not yours to turn. If you find one false, say at which input.
  Laid BY PROGRAM, IN A SANDBOX (cutbox-rows.mjs): the forced cells as the released guide's own fill.sh prints them over the translation 3ea43b25cd5fb0f6… (all of the seat's roots in one cut). By AI agents, Wed Nov 11 2026. No macro, syntax, notation, axiom, sorry.
-/
import Derived.Test.YthibocafjkbeeaaChecked
import GoSem.Claim
import GoSem.ClaimJoined
import GoSem.ClaimMapViews
import Derived.JoinedTies
import Derived.KernelRfl
namespace Go.Proofs.Ythibocafjkbeeaa
/- THE CELL 'sum', in the pinned program and in every row, IS THE sha256 OF THE DUMP (.gsa) THAT YthibocafjkbeeaaProg.lean LOADS. Nothing in Lean hashes anything: it is a label: what it is worth is what the hold of that sum in a sandbox is worth. -/
noncomputable def Try.pinned : Pinned := { name := "ythibocafjkbeeaa", sum := "3ea43b25cd5fb0f66fc16de8b32cebb18c1699b7c42de4c52c3652039237ed3f", checked := Try.checked }
namespace Rows
def none {H : Type} : Left H := { results := [], args := [] }

/-- 'quadformlaw09.VectorCompares': WHATEVER THE INPUT: true; the input reads as it did. -/
def vectorComparesSpec : ChangeSpec := { name := "vectorCompares", fn := fun _ => fun
  | [d1, d2, d3] => { results := [.lit (.bool true)], args := [d1, d2, d3] }
  | _ => none }
def vectorComparesRow : OpenClaim := { program := "ythibocafjkbeeaa", sum := "3ea43b25cd5fb0f66fc16de8b32cebb18c1699b7c42de4c52c3652039237ed3f", func := "quadform/quadformlaw09.VectorCompares", spec := "vectorCompares", unfollowed := true, recurses := true, apart := false }
def VectorComparesSaid : Prop := vectorComparesRow.holds Try.pinned (OpenSpec.ofChange vectorComparesSpec)

/-- ITS FALSE NEIGHBOUR: 'it returns false'. Refute it at one input. -/
def vectorComparesWrong : ChangeSpec := { name := "vectorCompares", fn := fun _ => fun
  | [d1, d2, d3] => { results := [.lit (.bool false)], args := [d1, d2, d3] }
  | _ => none }
def VectorComparesWrongFalsely : Prop := vectorComparesRow.holds Try.pinned (OpenSpec.ofChange vectorComparesWrong)

/-- 'quadformlaw09.VectorSigns': WHATEVER THE INPUT: true; the input reads as it did. -/
def vectorSignsSpec : ChangeSpec := { name := "vectorSigns", fn := fun _ => fun
  | [d1, d2, d3] => { results := [.lit (.bool true)], args := [d1, d2, d3] }
  | _ => none }
def vectorSignsRow : OpenClaim := { program := "ythibocafjkbeeaa", sum := "3ea43b25cd5fb0f66fc16de8b32cebb18c1699b7c42de4c52c3652039237ed3f", func := "quadform/quadformlaw09.VectorSigns", spec := "vectorSigns", unfollowed := true, recurses := true, apart := false }
def VectorSignsSaid : Prop := vectorSignsRow.holds Try.pinned (OpenSpec.ofChange vectorSignsSpec)

/-- ITS FALSE NEIGHBOUR: 'it returns false'. Refute it at one input. -/
def vectorSignsWrong : ChangeSpec := { name := "vectorSigns", fn := fun _ => fun
  | [d1, d2, d3] => { results := [.lit (.bool false)], args := [d1, d2, d3] }
  | _ => none }
def VectorSignsWrongFalsely : Prop := vectorSignsRow.holds Try.pinned (OpenSpec.ofChange vectorSignsWrong)

/-- 'quadformlaw09.VectorContents': WHATEVER THE INPUT: true; the input reads as it did. -/
def vectorContentsSpec : ChangeSpec := { name := "vectorContents", fn := fun _ => fun
  | [d1, d2, d3] => { results := [.lit (.bool true)], args := [d1, d2, d3] }
  | _ => none }
def vectorContentsRow : OpenClaim := { program := "ythibocafjkbeeaa", sum := "3ea43b25cd5fb0f66fc16de8b32cebb18c1699b7c42de4c52c3652039237ed3f", func := "quadform/quadformlaw09.VectorContents", spec := "vectorContents", unfollowed := true, recurses := true, apart := false }
def VectorContentsSaid : Prop := vectorContentsRow.holds Try.pinned (OpenSpec.ofChange vectorContentsSpec)

/-- ITS FALSE NEIGHBOUR: 'it returns false'. Refute it at one input. -/
def vectorContentsWrong : ChangeSpec := { name := "vectorContents", fn := fun _ => fun
  | [d1, d2, d3] => { results := [.lit (.bool false)], args := [d1, d2, d3] }
  | _ => none }
def VectorContentsWrongFalsely : Prop := vectorContentsRow.holds Try.pinned (OpenSpec.ofChange vectorContentsWrong)

/- THE SECOND FORM. 'bulk': how many values and letters a reading holds, each counted each time it is reached (what is shared counts as often as it is met; a slice's spare places count too). A statement '..UptoSaid' is the law's where the arguments, and the package variables that the reading takes, are together of bulk at most 1048576: NARROWER than '..Said'. Prove '..Said' where nothing that the law and all that it calls make is longer than what came in: it says more and counts as full. Else prove '..UptoSaid'. A law counts once. -/
mutual
def uptoBulk {H : Type} : DataW H → Nat
  | .lit (.string bytes) => bytes.length + 1
  | .lit _ => 1
  | .nil => 1
  | .ptr d => uptoBulk d + 1
  | .slice elems spare => uptoBulkAll elems + uptoBulkAll spare + 1
  | .agg parts => uptoBulkAll parts + 1
  | .iface _ d => uptoBulk d + 1
  | .map entries => uptoBulkEntries entries + 1
  | .held _ => 1
def uptoBulkAll {H : Type} : List (DataW H) → Nat
  | [] => 0
  | d :: r => uptoBulk d + uptoBulkAll r
def uptoBulkEntries {H : Type} : List (Lit × DataW H) → Nat
  | [] => 0
  | x :: r => uptoBulkEntry x + uptoBulkEntries r
def uptoBulkEntry {H : Type} : Lit × DataW H → Nat
  | (.string bytes, d) => bytes.length + uptoBulk d + 1
  | (_, d) => uptoBulk d + 1
 end
def uptoSmall : (H : Type) → List (DataW H) → Bool := fun _ ds => decide (uptoBulkAll ds ≤ 1048576)
def OpenSpec.upto (s : _root_.Go.ChangeSpec) : _root_.Go.OpenSpec := { _root_.Go.OpenSpec.ofChange s with cond := some uptoSmall }

/-- 'quadformlaw09.VectorCompares', WHERE WHAT IT READS IS OF BULK AT MOST 1048576: true; the input reads as it did. -/
def vectorComparesUptoRow : OpenClaim := { program := "ythibocafjkbeeaa", sum := "3ea43b25cd5fb0f66fc16de8b32cebb18c1699b7c42de4c52c3652039237ed3f", func := "quadform/quadformlaw09.VectorCompares", spec := "vectorCompares", unfollowed := true, recurses := true, apart := false, narrowed := true }
def VectorComparesUptoSaid : Prop := vectorComparesUptoRow.holds Try.pinned (OpenSpec.upto vectorComparesSpec)

/-- 'quadformlaw09.VectorSigns', WHERE WHAT IT READS IS OF BULK AT MOST 1048576: true; the input reads as it did. -/
def vectorSignsUptoRow : OpenClaim := { program := "ythibocafjkbeeaa", sum := "3ea43b25cd5fb0f66fc16de8b32cebb18c1699b7c42de4c52c3652039237ed3f", func := "quadform/quadformlaw09.VectorSigns", spec := "vectorSigns", unfollowed := true, recurses := true, apart := false, narrowed := true }
def VectorSignsUptoSaid : Prop := vectorSignsUptoRow.holds Try.pinned (OpenSpec.upto vectorSignsSpec)

/-- 'quadformlaw09.VectorContents', WHERE WHAT IT READS IS OF BULK AT MOST 1048576: true; the input reads as it did. -/
def vectorContentsUptoRow : OpenClaim := { program := "ythibocafjkbeeaa", sum := "3ea43b25cd5fb0f66fc16de8b32cebb18c1699b7c42de4c52c3652039237ed3f", func := "quadform/quadformlaw09.VectorContents", spec := "vectorContents", unfollowed := true, recurses := true, apart := false, narrowed := true }
def VectorContentsUptoSaid : Prop := vectorContentsUptoRow.holds Try.pinned (OpenSpec.upto vectorContentsSpec)

end Rows
end Go.Proofs.Ythibocafjkbeeaa
