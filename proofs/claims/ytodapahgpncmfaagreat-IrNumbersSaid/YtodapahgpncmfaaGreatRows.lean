/-
  No cell of these rows narrows 'for every input' (looked for: loops, veiled, ifaces, maps, wideKeys, modest, calm, conditions, laid).
  DERIVED. THE GIVEN ROWS OF THIS SEAT. 4 by the template 'for every input the law returns true; each argument reads behind the call as it read before'; 0 by the template 'total and deterministic' (their statements: YtodapahgpncmfaaGreatTotals.lean).
  GIVEN WITH THE SEED: the statements are not yours to turn. If you find one false, say at which input.
  Laid BY PROGRAM, IN A SANDBOX (cutbox-rows.mjs): the forced cells as the released guide's own fill.sh prints them over the translation 26fae36432ed963d… (all of the seat's roots in one cut). By AI agents, Wed Nov 11 2026. No macro, syntax, notation, axiom, sorry.
-/
import Derived.Test.YtodapahgpncmfaaGreatChecked
import GoSem.Claim
import GoSem.ClaimJoined
import GoSem.ClaimMapViews
import Derived.JoinedTies
import Derived.KernelRfl
namespace Go.Proofs.YtodapahgpncmfaaGreat
/- THE CELL 'sum', in the pinned program and in every row, IS THE sha256 OF THE DUMP (.gsa) THAT YtodapahgpncmfaaGreatProg.lean LOADS. Nothing in Lean hashes anything: it is a label: what it is worth is what the hold of that sum in a sandbox is worth. -/
noncomputable def Tryz.pinned : Pinned := { name := "ytodapahgpncmfaagreat", sum := "26fae36432ed963d432f051edd307d088814d7bc576aef5ec1d0ae38860764c4", checked := Tryz.checked }
namespace Rows
def none {H : Type} : Left H := { results := [], args := [] }

/-- 'carafelaw10.VerifyNumbers': WHATEVER THE INPUT: true; the input reads as it did. -/
def verifyNumbersSpec : ChangeSpec := { name := "verifyNumbers", fn := fun _ => fun
  | [] => { results := [.lit (.bool true)], args := [] }
  | _ => none }
def verifyNumbersRow : OpenClaim := { program := "ytodapahgpncmfaagreat", sum := "26fae36432ed963d432f051edd307d088814d7bc576aef5ec1d0ae38860764c4", func := "carafe/carafelaw10.VerifyNumbers", spec := "verifyNumbers", inPlace := ["internal/bytealg.IndexByteString"], unfollowed := true, recurses := true, apart := false }
def VerifyNumbersSaid : Prop := verifyNumbersRow.holds Tryz.pinned (OpenSpec.ofChange verifyNumbersSpec)

/-- ITS FALSE NEIGHBOUR: 'it returns false'. Refute it at one input. -/
def verifyNumbersWrong : ChangeSpec := { name := "verifyNumbers", fn := fun _ => fun
  | [] => { results := [.lit (.bool false)], args := [] }
  | _ => none }
def VerifyNumbersWrongFalsely : Prop := verifyNumbersRow.holds Tryz.pinned (OpenSpec.ofChange verifyNumbersWrong)

/-- 'carafelaw21.IrNumbers': WHATEVER THE INPUT: true; the input reads as it did. -/
def irNumbersSpec : ChangeSpec := { name := "irNumbers", fn := fun _ => fun
  | [] => { results := [.lit (.bool true)], args := [] }
  | _ => none }
def irNumbersRow : OpenClaim := { program := "ytodapahgpncmfaagreat", sum := "26fae36432ed963d432f051edd307d088814d7bc576aef5ec1d0ae38860764c4", func := "carafe/carafelaw21.IrNumbers", spec := "irNumbers", inPlace := ["internal/bytealg.IndexByteString"], unfollowed := true, recurses := true, apart := false }
def IrNumbersSaid : Prop := irNumbersRow.holds Tryz.pinned (OpenSpec.ofChange irNumbersSpec)

/-- ITS FALSE NEIGHBOUR: 'it returns false'. Refute it at one input. -/
def irNumbersWrong : ChangeSpec := { name := "irNumbers", fn := fun _ => fun
  | [] => { results := [.lit (.bool false)], args := [] }
  | _ => none }
def IrNumbersWrongFalsely : Prop := irNumbersRow.holds Tryz.pinned (OpenSpec.ofChange irNumbersWrong)

/-- 'carafelaw23.GenNumbers': WHATEVER THE INPUT: true; the input reads as it did. -/
def genNumbersSpec : ChangeSpec := { name := "genNumbers", fn := fun _ => fun
  | [] => { results := [.lit (.bool true)], args := [] }
  | _ => none }
def genNumbersRow : OpenClaim := { program := "ytodapahgpncmfaagreat", sum := "26fae36432ed963d432f051edd307d088814d7bc576aef5ec1d0ae38860764c4", func := "carafe/carafelaw23.GenNumbers", spec := "genNumbers", unfollowed := true, recurses := true, named := ["math/bits.divideError", "math/bits.overflowError"], apart := false }
def GenNumbersSaid : Prop := genNumbersRow.holds Tryz.pinned (OpenSpec.ofChange genNumbersSpec)

/-- ITS FALSE NEIGHBOUR: 'it returns false'. Refute it at one input. -/
def genNumbersWrong : ChangeSpec := { name := "genNumbers", fn := fun _ => fun
  | [] => { results := [.lit (.bool false)], args := [] }
  | _ => none }
def GenNumbersWrongFalsely : Prop := genNumbersRow.holds Tryz.pinned (OpenSpec.ofChange genNumbersWrong)

/-- 'carafelaw24.JitNumbers': WHATEVER THE INPUT: true; the input reads as it did. -/
def jitNumbersSpec : ChangeSpec := { name := "jitNumbers", fn := fun _ => fun
  | [] => { results := [.lit (.bool true)], args := [] }
  | _ => none }
def jitNumbersRow : OpenClaim := { program := "ytodapahgpncmfaagreat", sum := "26fae36432ed963d432f051edd307d088814d7bc576aef5ec1d0ae38860764c4", func := "carafe/carafelaw24.JitNumbers", spec := "jitNumbers", inPlace := ["internal/bytealg.IndexByteString"], unfollowed := true, recurses := true, named := ["math/bits.divideError", "math/bits.overflowError"], apart := false }
def JitNumbersSaid : Prop := jitNumbersRow.holds Tryz.pinned (OpenSpec.ofChange jitNumbersSpec)

/-- ITS FALSE NEIGHBOUR: 'it returns false'. Refute it at one input. -/
def jitNumbersWrong : ChangeSpec := { name := "jitNumbers", fn := fun _ => fun
  | [] => { results := [.lit (.bool false)], args := [] }
  | _ => none }
def JitNumbersWrongFalsely : Prop := jitNumbersRow.holds Tryz.pinned (OpenSpec.ofChange jitNumbersWrong)

/- THE SECOND FORM. 'bulk': how many values and letters a reading holds, each counted each time it is reached (what is shared counts as often as it is met; a slice's spare places count too). A statement '..UptoSaid' is the law's where the arguments, and the package variables that the reading takes, are together of bulk at most 1048576: NARROWER than '..Said'. Prove '..Said' where nothing that the law and all that it calls make is longer than what came in: it says more and counts as full. Else prove '..UptoSaid'. A law counts once. -/
mutual
def uptoBulk {H : Type} : DataW H → Nat
  | .lit (.string bytes) => bytes.length + 1
  | .lit _ => 1
  | .nil => 1
  | .ptr d => uptoBulk d + 1
  | .slice elems spare => uptoBulkAll elems + uptoBulkAll spare + 1
  | .agg parts => uptoBulkAll parts + 1
  | .iface _ d => uptoBulk d + 1
  | .map entries => uptoBulkEntries entries + 1
  | .held _ => 1
def uptoBulkAll {H : Type} : List (DataW H) → Nat
  | [] => 0
  | d :: r => uptoBulk d + uptoBulkAll r
def uptoBulkEntries {H : Type} : List (Lit × DataW H) → Nat
  | [] => 0
  | x :: r => uptoBulkEntry x + uptoBulkEntries r
def uptoBulkEntry {H : Type} : Lit × DataW H → Nat
  | (.string bytes, d) => bytes.length + uptoBulk d + 1
  | (_, d) => uptoBulk d + 1
 end
def uptoSmall : (H : Type) → List (DataW H) → Bool := fun _ ds => decide (uptoBulkAll ds ≤ 1048576)
def OpenSpec.upto (s : _root_.Go.ChangeSpec) : _root_.Go.OpenSpec := { _root_.Go.OpenSpec.ofChange s with cond := some uptoSmall }

/-- 'carafelaw10.VerifyNumbers', WHERE WHAT IT READS IS OF BULK AT MOST 1048576: true; the input reads as it did. -/
def verifyNumbersUptoRow : OpenClaim := { program := "ytodapahgpncmfaagreat", sum := "26fae36432ed963d432f051edd307d088814d7bc576aef5ec1d0ae38860764c4", func := "carafe/carafelaw10.VerifyNumbers", spec := "verifyNumbers", inPlace := ["internal/bytealg.IndexByteString"], unfollowed := true, recurses := true, apart := false, narrowed := true }
def VerifyNumbersUptoSaid : Prop := verifyNumbersUptoRow.holds Tryz.pinned (OpenSpec.upto verifyNumbersSpec)

/-- 'carafelaw21.IrNumbers', WHERE WHAT IT READS IS OF BULK AT MOST 1048576: true; the input reads as it did. -/
def irNumbersUptoRow : OpenClaim := { program := "ytodapahgpncmfaagreat", sum := "26fae36432ed963d432f051edd307d088814d7bc576aef5ec1d0ae38860764c4", func := "carafe/carafelaw21.IrNumbers", spec := "irNumbers", inPlace := ["internal/bytealg.IndexByteString"], unfollowed := true, recurses := true, apart := false, narrowed := true }
def IrNumbersUptoSaid : Prop := irNumbersUptoRow.holds Tryz.pinned (OpenSpec.upto irNumbersSpec)

/-- 'carafelaw23.GenNumbers', WHERE WHAT IT READS IS OF BULK AT MOST 1048576: true; the input reads as it did. -/
def genNumbersUptoRow : OpenClaim := { program := "ytodapahgpncmfaagreat", sum := "26fae36432ed963d432f051edd307d088814d7bc576aef5ec1d0ae38860764c4", func := "carafe/carafelaw23.GenNumbers", spec := "genNumbers", unfollowed := true, recurses := true, named := ["math/bits.divideError", "math/bits.overflowError"], apart := false, narrowed := true }
def GenNumbersUptoSaid : Prop := genNumbersUptoRow.holds Tryz.pinned (OpenSpec.upto genNumbersSpec)

/-- 'carafelaw24.JitNumbers', WHERE WHAT IT READS IS OF BULK AT MOST 1048576: true; the input reads as it did. -/
def jitNumbersUptoRow : OpenClaim := { program := "ytodapahgpncmfaagreat", sum := "26fae36432ed963d432f051edd307d088814d7bc576aef5ec1d0ae38860764c4", func := "carafe/carafelaw24.JitNumbers", spec := "jitNumbers", inPlace := ["internal/bytealg.IndexByteString"], unfollowed := true, recurses := true, named := ["math/bits.divideError", "math/bits.overflowError"], apart := false, narrowed := true }
def JitNumbersUptoSaid : Prop := jitNumbersUptoRow.holds Tryz.pinned (OpenSpec.upto jitNumbersSpec)

end Rows
end Go.Proofs.YtodapahgpncmfaaGreat
