/-
  No cell of these rows narrows 'for every input' (looked for: loops, veiled, ifaces, maps, wideKeys, modest, calm, conditions, laid).
  DERIVED. THE GIVEN ROWS OF THIS SEAT. 4 by the template 'for every input the law returns true; each argument reads behind the call as it read before'; 0 by the template 'total and deterministic' (their statements: YtkejnhmhbmbhcaaTotals.lean).
  GIVEN WITH THE SEED: the statements are not yours to turn. If you find one false, say at which input.
  Laid BY PROGRAM, IN A SANDBOX (cutbox-rows.mjs): the forced cells as the released guide's own fill.sh prints them over the translation 8389b15a082b00df… (all of the seat's roots in one cut). By AI agents, Wed Nov 11 2026. No macro, syntax, notation, axiom, sorry.
-/
import Derived.Test.YtkejnhmhbmbhcaaChecked
import GoSem.Claim
import GoSem.ClaimJoined
import GoSem.ClaimMapViews
import Derived.JoinedTies
import Derived.KernelRfl
namespace Go.Proofs.Ytkejnhmhbmbhcaa
/- THE CELL 'sum', in the pinned program and in every row, IS THE sha256 OF THE DUMP (.gsa) THAT YtkejnhmhbmbhcaaProg.lean LOADS. Nothing in Lean hashes anything: it is a label: what it is worth is what the hold of that sum in a sandbox is worth. -/
noncomputable def Try.pinned : Pinned := { name := "ytkejnhmhbmbhcaa", sum := "8389b15a082b00dfb9b9db319b7e58a830be5edbccf4242c5bb6401c32bd937c", checked := Try.checked }
namespace Rows
def none {H : Type} : Left H := { results := [], args := [] }

/-- 'carafelaw22.AllocScans': WHATEVER THE INPUT: true; the input reads as it did. -/
def allocScansSpec : ChangeSpec := { name := "allocScans", fn := fun _ => fun
  | [d1, d2] => { results := [.lit (.bool true)], args := [d1, d2] }
  | _ => none }
def allocScansRow : OpenClaim := { program := "ytkejnhmhbmbhcaa", sum := "8389b15a082b00dfb9b9db319b7e58a830be5edbccf4242c5bb6401c32bd937c", func := "carafe/carafelaw22.AllocScans", spec := "allocScans", unfollowed := true, recurses := true, apart := false }
def AllocScansSaid : Prop := allocScansRow.holds Try.pinned (OpenSpec.ofChange allocScansSpec)

/-- ITS FALSE NEIGHBOUR: 'it returns false'. Refute it at one input. -/
def allocScansWrong : ChangeSpec := { name := "allocScans", fn := fun _ => fun
  | [d1, d2] => { results := [.lit (.bool false)], args := [d1, d2] }
  | _ => none }
def AllocScansWrongFalsely : Prop := allocScansRow.holds Try.pinned (OpenSpec.ofChange allocScansWrong)

/-- 'carafelaw22.AllocFewer': WHATEVER THE INPUT: true; the input reads as it did. -/
def allocFewerSpec : ChangeSpec := { name := "allocFewer", fn := fun _ => fun
  | [d1, d2] => { results := [.lit (.bool true)], args := [d1, d2] }
  | _ => none }
def allocFewerRow : OpenClaim := { program := "ytkejnhmhbmbhcaa", sum := "8389b15a082b00dfb9b9db319b7e58a830be5edbccf4242c5bb6401c32bd937c", func := "carafe/carafelaw22.AllocFewer", spec := "allocFewer", unfollowed := true, recurses := true, apart := false }
def AllocFewerSaid : Prop := allocFewerRow.holds Try.pinned (OpenSpec.ofChange allocFewerSpec)

/-- ITS FALSE NEIGHBOUR: 'it returns false'. Refute it at one input. -/
def allocFewerWrong : ChangeSpec := { name := "allocFewer", fn := fun _ => fun
  | [d1, d2] => { results := [.lit (.bool false)], args := [d1, d2] }
  | _ => none }
def AllocFewerWrongFalsely : Prop := allocFewerRow.holds Try.pinned (OpenSpec.ofChange allocFewerWrong)

/-- 'carafelaw22.AllocRight': WHATEVER THE INPUT: true; the input reads as it did. -/
def allocRightSpec : ChangeSpec := { name := "allocRight", fn := fun _ => fun
  | [d1, d2] => { results := [.lit (.bool true)], args := [d1, d2] }
  | _ => none }
def allocRightRow : OpenClaim := { program := "ytkejnhmhbmbhcaa", sum := "8389b15a082b00dfb9b9db319b7e58a830be5edbccf4242c5bb6401c32bd937c", func := "carafe/carafelaw22.AllocRight", spec := "allocRight", unfollowed := true, recurses := true, apart := false }
def AllocRightSaid : Prop := allocRightRow.holds Try.pinned (OpenSpec.ofChange allocRightSpec)

/-- ITS FALSE NEIGHBOUR: 'it returns false'. Refute it at one input. -/
def allocRightWrong : ChangeSpec := { name := "allocRight", fn := fun _ => fun
  | [d1, d2] => { results := [.lit (.bool false)], args := [d1, d2] }
  | _ => none }
def AllocRightWrongFalsely : Prop := allocRightRow.holds Try.pinned (OpenSpec.ofChange allocRightWrong)

/-- 'carafelaw22.AllocWrong': WHATEVER THE INPUT: true; the input reads as it did. -/
def allocWrongSpec : ChangeSpec := { name := "allocWrong", fn := fun _ => fun
  | [d1, d2, d3, d4] => { results := [.lit (.bool true)], args := [d1, d2, d3, d4] }
  | _ => none }
def allocWrongRow : OpenClaim := { program := "ytkejnhmhbmbhcaa", sum := "8389b15a082b00dfb9b9db319b7e58a830be5edbccf4242c5bb6401c32bd937c", func := "carafe/carafelaw22.AllocWrong", spec := "allocWrong", unfollowed := true, recurses := true, apart := false }
def AllocWrongSaid : Prop := allocWrongRow.holds Try.pinned (OpenSpec.ofChange allocWrongSpec)

/-- ITS FALSE NEIGHBOUR: 'it returns false'. Refute it at one input. -/
def allocWrongWrong : ChangeSpec := { name := "allocWrong", fn := fun _ => fun
  | [d1, d2, d3, d4] => { results := [.lit (.bool false)], args := [d1, d2, d3, d4] }
  | _ => none }
def AllocWrongWrongFalsely : Prop := allocWrongRow.holds Try.pinned (OpenSpec.ofChange allocWrongWrong)

/- THE SECOND FORM. 'bulk': how many values and letters a reading holds, each counted each time it is reached (what is shared counts as often as it is met; a slice's spare places count too). A statement '..UptoSaid' is the law's where the arguments, and the package variables that the reading takes, are together of bulk at most 1048576: NARROWER than '..Said'. Prove '..Said' where nothing that the law and all that it calls make is longer than what came in: it says more and counts as full. Else prove '..UptoSaid'. A law counts once. -/
mutual
def uptoBulk {H : Type} : DataW H → Nat
  | .lit (.string bytes) => bytes.length + 1
  | .lit _ => 1
  | .nil => 1
  | .ptr d => uptoBulk d + 1
  | .slice elems spare => uptoBulkAll elems + uptoBulkAll spare + 1
  | .agg parts => uptoBulkAll parts + 1
  | .iface _ d => uptoBulk d + 1
  | .map entries => uptoBulkEntries entries + 1
  | .held _ => 1
def uptoBulkAll {H : Type} : List (DataW H) → Nat
  | [] => 0
  | d :: r => uptoBulk d + uptoBulkAll r
def uptoBulkEntries {H : Type} : List (Lit × DataW H) → Nat
  | [] => 0
  | x :: r => uptoBulkEntry x + uptoBulkEntries r
def uptoBulkEntry {H : Type} : Lit × DataW H → Nat
  | (.string bytes, d) => bytes.length + uptoBulk d + 1
  | (_, d) => uptoBulk d + 1
 end
def uptoSmall : (H : Type) → List (DataW H) → Bool := fun _ ds => decide (uptoBulkAll ds ≤ 1048576)
def OpenSpec.upto (s : _root_.Go.ChangeSpec) : _root_.Go.OpenSpec := { _root_.Go.OpenSpec.ofChange s with cond := some uptoSmall }

/-- 'carafelaw22.AllocScans', WHERE WHAT IT READS IS OF BULK AT MOST 1048576: true; the input reads as it did. -/
def allocScansUptoRow : OpenClaim := { program := "ytkejnhmhbmbhcaa", sum := "8389b15a082b00dfb9b9db319b7e58a830be5edbccf4242c5bb6401c32bd937c", func := "carafe/carafelaw22.AllocScans", spec := "allocScans", unfollowed := true, recurses := true, apart := false, narrowed := true }
def AllocScansUptoSaid : Prop := allocScansUptoRow.holds Try.pinned (OpenSpec.upto allocScansSpec)

/-- 'carafelaw22.AllocFewer', WHERE WHAT IT READS IS OF BULK AT MOST 1048576: true; the input reads as it did. -/
def allocFewerUptoRow : OpenClaim := { program := "ytkejnhmhbmbhcaa", sum := "8389b15a082b00dfb9b9db319b7e58a830be5edbccf4242c5bb6401c32bd937c", func := "carafe/carafelaw22.AllocFewer", spec := "allocFewer", unfollowed := true, recurses := true, apart := false, narrowed := true }
def AllocFewerUptoSaid : Prop := allocFewerUptoRow.holds Try.pinned (OpenSpec.upto allocFewerSpec)

/-- 'carafelaw22.AllocRight', WHERE WHAT IT READS IS OF BULK AT MOST 1048576: true; the input reads as it did. -/
def allocRightUptoRow : OpenClaim := { program := "ytkejnhmhbmbhcaa", sum := "8389b15a082b00dfb9b9db319b7e58a830be5edbccf4242c5bb6401c32bd937c", func := "carafe/carafelaw22.AllocRight", spec := "allocRight", unfollowed := true, recurses := true, apart := false, narrowed := true }
def AllocRightUptoSaid : Prop := allocRightUptoRow.holds Try.pinned (OpenSpec.upto allocRightSpec)

/-- 'carafelaw22.AllocWrong', WHERE WHAT IT READS IS OF BULK AT MOST 1048576: true; the input reads as it did. -/
def allocWrongUptoRow : OpenClaim := { program := "ytkejnhmhbmbhcaa", sum := "8389b15a082b00dfb9b9db319b7e58a830be5edbccf4242c5bb6401c32bd937c", func := "carafe/carafelaw22.AllocWrong", spec := "allocWrong", unfollowed := true, recurses := true, apart := false, narrowed := true }
def AllocWrongUptoSaid : Prop := allocWrongUptoRow.holds Try.pinned (OpenSpec.upto allocWrongSpec)

end Rows
end Go.Proofs.Ytkejnhmhbmbhcaa
