/-
  No cell of these rows narrows 'for every input' (looked for: loops, veiled, ifaces, maps, wideKeys, modest, calm, conditions, laid).
  DERIVED. THE GIVEN ROWS OF THIS SEAT. 6 by the template 'for every input the law returns true; each argument reads behind the call as it read before'; 0 by the template 'total and deterministic' (their statements: YtpcocfdgcihpdaaTotals.lean).
  GIVEN WITH THE SEED: the statements are not yours to turn. If you find one false, say at which input.
  Laid BY PROGRAM, IN A SANDBOX (cutbox-rows.mjs): the forced cells as the released guide's own fill.sh prints them over the translation 13d870201052bb68… (all of the seat's roots in one cut). By AI agents, Wed Nov 11 2026. No macro, syntax, notation, axiom, sorry.
-/
import Derived.Test.YtpcocfdgcihpdaaChecked
import GoSem.Claim
import GoSem.ClaimJoined
import GoSem.ClaimMapViews
import Derived.JoinedTies
import Derived.KernelRfl
namespace Go.Proofs.Ytpcocfdgcihpdaa
/- THE CELL 'sum', in the pinned program and in every row, IS THE sha256 OF THE DUMP (.gsa) THAT YtpcocfdgcihpdaaProg.lean LOADS. Nothing in Lean hashes anything: it is a label: what it is worth is what the hold of that sum in a sandbox is worth. -/
noncomputable def Try.pinned : Pinned := { name := "ytpcocfdgcihpdaa", sum := "13d870201052bb683ea629d3cbc7fa2b3cc75a1a7d3353f9c02741f5e4970408", checked := Try.checked }
namespace Rows
def none {H : Type} : Left H := { results := [], args := [] }

/-- 'carafelaw20.SimCompares': WHATEVER THE INPUT: true; the input reads as it did. -/
def simComparesSpec : ChangeSpec := { name := "simCompares", fn := fun _ => fun
  | [d1, d2] => { results := [.lit (.bool true)], args := [d1, d2] }
  | _ => none }
def simComparesRow : OpenClaim := { program := "ytpcocfdgcihpdaa", sum := "13d870201052bb683ea629d3cbc7fa2b3cc75a1a7d3353f9c02741f5e4970408", func := "carafe/carafelaw20.SimCompares", spec := "simCompares", unfollowed := true, recurses := true, named := ["math/bits.divideError", "math/bits.overflowError"], apart := false }
def SimComparesSaid : Prop := simComparesRow.holds Try.pinned (OpenSpec.ofChange simComparesSpec)

/-- ITS FALSE NEIGHBOUR: 'it returns false'. Refute it at one input. -/
def simComparesWrong : ChangeSpec := { name := "simCompares", fn := fun _ => fun
  | [d1, d2] => { results := [.lit (.bool false)], args := [d1, d2] }
  | _ => none }
def SimComparesWrongFalsely : Prop := simComparesRow.holds Try.pinned (OpenSpec.ofChange simComparesWrong)

/-- 'carafelaw20.SimReckons': WHATEVER THE INPUT: true; the input reads as it did. -/
def simReckonsSpec : ChangeSpec := { name := "simReckons", fn := fun _ => fun
  | [d1, d2] => { results := [.lit (.bool true)], args := [d1, d2] }
  | _ => none }
def simReckonsRow : OpenClaim := { program := "ytpcocfdgcihpdaa", sum := "13d870201052bb683ea629d3cbc7fa2b3cc75a1a7d3353f9c02741f5e4970408", func := "carafe/carafelaw20.SimReckons", spec := "simReckons", unfollowed := true, recurses := true, named := ["math/bits.divideError", "math/bits.overflowError"], apart := false }
def SimReckonsSaid : Prop := simReckonsRow.holds Try.pinned (OpenSpec.ofChange simReckonsSpec)

/-- ITS FALSE NEIGHBOUR: 'it returns false'. Refute it at one input. -/
def simReckonsWrong : ChangeSpec := { name := "simReckons", fn := fun _ => fun
  | [d1, d2] => { results := [.lit (.bool false)], args := [d1, d2] }
  | _ => none }
def SimReckonsWrongFalsely : Prop := simReckonsRow.holds Try.pinned (OpenSpec.ofChange simReckonsWrong)

/-- 'carafelaw20.SimRuns': WHATEVER THE INPUT: true; the input reads as it did. -/
def simRunsSpec : ChangeSpec := { name := "simRuns", fn := fun _ => fun
  | [d1, d2, d3] => { results := [.lit (.bool true)], args := [d1, d2, d3] }
  | _ => none }
def simRunsRow : OpenClaim := { program := "ytpcocfdgcihpdaa", sum := "13d870201052bb683ea629d3cbc7fa2b3cc75a1a7d3353f9c02741f5e4970408", func := "carafe/carafelaw20.SimRuns", spec := "simRuns", unfollowed := true, recurses := true, named := ["math/bits.divideError", "math/bits.overflowError"], apart := false }
def SimRunsSaid : Prop := simRunsRow.holds Try.pinned (OpenSpec.ofChange simRunsSpec)

/-- ITS FALSE NEIGHBOUR: 'it returns false'. Refute it at one input. -/
def simRunsWrong : ChangeSpec := { name := "simRuns", fn := fun _ => fun
  | [d1, d2, d3] => { results := [.lit (.bool false)], args := [d1, d2, d3] }
  | _ => none }
def SimRunsWrongFalsely : Prop := simRunsRow.holds Try.pinned (OpenSpec.ofChange simRunsWrong)

/-- 'carafelaw20.SimTraps': WHATEVER THE INPUT: true; the input reads as it did. -/
def simTrapsSpec : ChangeSpec := { name := "simTraps", fn := fun _ => fun
  | [d1, d2] => { results := [.lit (.bool true)], args := [d1, d2] }
  | _ => none }
def simTrapsRow : OpenClaim := { program := "ytpcocfdgcihpdaa", sum := "13d870201052bb683ea629d3cbc7fa2b3cc75a1a7d3353f9c02741f5e4970408", func := "carafe/carafelaw20.SimTraps", spec := "simTraps", unfollowed := true, recurses := true, named := ["math/bits.divideError", "math/bits.overflowError"], apart := false }
def SimTrapsSaid : Prop := simTrapsRow.holds Try.pinned (OpenSpec.ofChange simTrapsSpec)

/-- ITS FALSE NEIGHBOUR: 'it returns false'. Refute it at one input. -/
def simTrapsWrong : ChangeSpec := { name := "simTraps", fn := fun _ => fun
  | [d1, d2] => { results := [.lit (.bool false)], args := [d1, d2] }
  | _ => none }
def SimTrapsWrongFalsely : Prop := simTrapsRow.holds Try.pinned (OpenSpec.ofChange simTrapsWrong)

/-- 'carafelaw20.SimNumbers': WHATEVER THE INPUT: true; the input reads as it did. -/
def simNumbersSpec : ChangeSpec := { name := "simNumbers", fn := fun _ => fun
  | [] => { results := [.lit (.bool true)], args := [] }
  | _ => none }
def simNumbersRow : OpenClaim := { program := "ytpcocfdgcihpdaa", sum := "13d870201052bb683ea629d3cbc7fa2b3cc75a1a7d3353f9c02741f5e4970408", func := "carafe/carafelaw20.SimNumbers", spec := "simNumbers", unfollowed := true, recurses := true, named := ["math/bits.divideError", "math/bits.overflowError"], apart := false }
def SimNumbersSaid : Prop := simNumbersRow.holds Try.pinned (OpenSpec.ofChange simNumbersSpec)

/-- ITS FALSE NEIGHBOUR: 'it returns false'. Refute it at one input. -/
def simNumbersWrong : ChangeSpec := { name := "simNumbers", fn := fun _ => fun
  | [] => { results := [.lit (.bool false)], args := [] }
  | _ => none }
def SimNumbersWrongFalsely : Prop := simNumbersRow.holds Try.pinned (OpenSpec.ofChange simNumbersWrong)

/-- 'carafelaw20.SimPlays': WHATEVER THE INPUT: true; the input reads as it did. -/
def simPlaysSpec : ChangeSpec := { name := "simPlays", fn := fun _ => fun
  | [d1, d2, d3, d4, d5] => { results := [.lit (.bool true)], args := [d1, d2, d3, d4, d5] }
  | _ => none }
def simPlaysRow : OpenClaim := { program := "ytpcocfdgcihpdaa", sum := "13d870201052bb683ea629d3cbc7fa2b3cc75a1a7d3353f9c02741f5e4970408", func := "carafe/carafelaw20.SimPlays", spec := "simPlays", unfollowed := true, recurses := true, named := ["math/bits.divideError", "math/bits.overflowError"], apart := false }
def SimPlaysSaid : Prop := simPlaysRow.holds Try.pinned (OpenSpec.ofChange simPlaysSpec)

/-- ITS FALSE NEIGHBOUR: 'it returns false'. Refute it at one input. -/
def simPlaysWrong : ChangeSpec := { name := "simPlays", fn := fun _ => fun
  | [d1, d2, d3, d4, d5] => { results := [.lit (.bool false)], args := [d1, d2, d3, d4, d5] }
  | _ => none }
def SimPlaysWrongFalsely : Prop := simPlaysRow.holds Try.pinned (OpenSpec.ofChange simPlaysWrong)

/- THE SECOND FORM. 'bulk': how many values and letters a reading holds, each counted each time it is reached (what is shared counts as often as it is met; a slice's spare places count too). A statement '..UptoSaid' is the law's where the arguments, and the package variables that the reading takes, are together of bulk at most 1048576: NARROWER than '..Said'. Prove '..Said' where nothing that the law and all that it calls make is longer than what came in: it says more and counts as full. Else prove '..UptoSaid'. A law counts once. -/
mutual
def uptoBulk {H : Type} : DataW H → Nat
  | .lit (.string bytes) => bytes.length + 1
  | .lit _ => 1
  | .nil => 1
  | .ptr d => uptoBulk d + 1
  | .slice elems spare => uptoBulkAll elems + uptoBulkAll spare + 1
  | .agg parts => uptoBulkAll parts + 1
  | .iface _ d => uptoBulk d + 1
  | .map entries => uptoBulkEntries entries + 1
  | .held _ => 1
def uptoBulkAll {H : Type} : List (DataW H) → Nat
  | [] => 0
  | d :: r => uptoBulk d + uptoBulkAll r
def uptoBulkEntries {H : Type} : List (Lit × DataW H) → Nat
  | [] => 0
  | x :: r => uptoBulkEntry x + uptoBulkEntries r
def uptoBulkEntry {H : Type} : Lit × DataW H → Nat
  | (.string bytes, d) => bytes.length + uptoBulk d + 1
  | (_, d) => uptoBulk d + 1
 end
def uptoSmall : (H : Type) → List (DataW H) → Bool := fun _ ds => decide (uptoBulkAll ds ≤ 1048576)
def OpenSpec.upto (s : _root_.Go.ChangeSpec) : _root_.Go.OpenSpec := { _root_.Go.OpenSpec.ofChange s with cond := some uptoSmall }

/-- 'carafelaw20.SimCompares', WHERE WHAT IT READS IS OF BULK AT MOST 1048576: true; the input reads as it did. -/
def simComparesUptoRow : OpenClaim := { program := "ytpcocfdgcihpdaa", sum := "13d870201052bb683ea629d3cbc7fa2b3cc75a1a7d3353f9c02741f5e4970408", func := "carafe/carafelaw20.SimCompares", spec := "simCompares", unfollowed := true, recurses := true, named := ["math/bits.divideError", "math/bits.overflowError"], apart := false, narrowed := true }
def SimComparesUptoSaid : Prop := simComparesUptoRow.holds Try.pinned (OpenSpec.upto simComparesSpec)

/-- 'carafelaw20.SimReckons', WHERE WHAT IT READS IS OF BULK AT MOST 1048576: true; the input reads as it did. -/
def simReckonsUptoRow : OpenClaim := { program := "ytpcocfdgcihpdaa", sum := "13d870201052bb683ea629d3cbc7fa2b3cc75a1a7d3353f9c02741f5e4970408", func := "carafe/carafelaw20.SimReckons", spec := "simReckons", unfollowed := true, recurses := true, named := ["math/bits.divideError", "math/bits.overflowError"], apart := false, narrowed := true }
def SimReckonsUptoSaid : Prop := simReckonsUptoRow.holds Try.pinned (OpenSpec.upto simReckonsSpec)

/-- 'carafelaw20.SimRuns', WHERE WHAT IT READS IS OF BULK AT MOST 1048576: true; the input reads as it did. -/
def simRunsUptoRow : OpenClaim := { program := "ytpcocfdgcihpdaa", sum := "13d870201052bb683ea629d3cbc7fa2b3cc75a1a7d3353f9c02741f5e4970408", func := "carafe/carafelaw20.SimRuns", spec := "simRuns", unfollowed := true, recurses := true, named := ["math/bits.divideError", "math/bits.overflowError"], apart := false, narrowed := true }
def SimRunsUptoSaid : Prop := simRunsUptoRow.holds Try.pinned (OpenSpec.upto simRunsSpec)

/-- 'carafelaw20.SimTraps', WHERE WHAT IT READS IS OF BULK AT MOST 1048576: true; the input reads as it did. -/
def simTrapsUptoRow : OpenClaim := { program := "ytpcocfdgcihpdaa", sum := "13d870201052bb683ea629d3cbc7fa2b3cc75a1a7d3353f9c02741f5e4970408", func := "carafe/carafelaw20.SimTraps", spec := "simTraps", unfollowed := true, recurses := true, named := ["math/bits.divideError", "math/bits.overflowError"], apart := false, narrowed := true }
def SimTrapsUptoSaid : Prop := simTrapsUptoRow.holds Try.pinned (OpenSpec.upto simTrapsSpec)

/-- 'carafelaw20.SimNumbers', WHERE WHAT IT READS IS OF BULK AT MOST 1048576: true; the input reads as it did. -/
def simNumbersUptoRow : OpenClaim := { program := "ytpcocfdgcihpdaa", sum := "13d870201052bb683ea629d3cbc7fa2b3cc75a1a7d3353f9c02741f5e4970408", func := "carafe/carafelaw20.SimNumbers", spec := "simNumbers", unfollowed := true, recurses := true, named := ["math/bits.divideError", "math/bits.overflowError"], apart := false, narrowed := true }
def SimNumbersUptoSaid : Prop := simNumbersUptoRow.holds Try.pinned (OpenSpec.upto simNumbersSpec)

/-- 'carafelaw20.SimPlays', WHERE WHAT IT READS IS OF BULK AT MOST 1048576: true; the input reads as it did. -/
def simPlaysUptoRow : OpenClaim := { program := "ytpcocfdgcihpdaa", sum := "13d870201052bb683ea629d3cbc7fa2b3cc75a1a7d3353f9c02741f5e4970408", func := "carafe/carafelaw20.SimPlays", spec := "simPlays", unfollowed := true, recurses := true, named := ["math/bits.divideError", "math/bits.overflowError"], apart := false, narrowed := true }
def SimPlaysUptoSaid : Prop := simPlaysUptoRow.holds Try.pinned (OpenSpec.upto simPlaysSpec)

end Rows
end Go.Proofs.Ytpcocfdgcihpdaa
