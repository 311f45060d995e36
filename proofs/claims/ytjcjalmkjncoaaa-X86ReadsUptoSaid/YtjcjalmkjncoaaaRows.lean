/-
  No cell of these rows narrows 'for every input' (looked for: loops, veiled, ifaces, maps, wideKeys, modest, calm, conditions, laid).
  DERIVED. THE GIVEN ROWS OF THIS SEAT. 5 by the template 'for every input the law returns true; each argument reads behind the call as it read before'; 0 by the template 'total and deterministic' (their statements: YtjcjalmkjncoaaaTotals.lean).
  GIVEN WITH THE SEED: the statements are not yours to turn. If you find one false, say at which input.
  Laid BY PROGRAM, IN A SANDBOX (cutbox-rows.mjs): the forced cells as the released guide's own fill.sh prints them over the translation c7ad1b8f91e809cd… (all of the seat's roots in one cut). By AI agents, Wed Nov 11 2026. No macro, syntax, notation, axiom, sorry.
-/
import Derived.Test.YtjcjalmkjncoaaaChecked
import GoSem.Claim
import GoSem.ClaimJoined
import GoSem.ClaimMapViews
import Derived.JoinedTies
import Derived.KernelRfl
namespace Go.Proofs.Ytjcjalmkjncoaaa
/- THE CELL 'sum', in the pinned program and in every row, IS THE sha256 OF THE DUMP (.gsa) THAT YtjcjalmkjncoaaaProg.lean LOADS. Nothing in Lean hashes anything: it is a label: what it is worth is what the hold of that sum in a sandbox is worth. -/
noncomputable def Try.pinned : Pinned := { name := "ytjcjalmkjncoaaa", sum := "c7ad1b8f91e809cd1853833f1ac965c4a5e2ce0f67e034e7a20bf62559d30919", checked := Try.checked }
namespace Rows
def none {H : Type} : Left H := { results := [], args := [] }

/-- 'carafelaw19.X86Lengths': WHATEVER THE INPUT: true; the input reads as it did. -/
def x86LengthsSpec : ChangeSpec := { name := "x86Lengths", fn := fun _ => fun
  | [d1, d2, d3] => { results := [.lit (.bool true)], args := [d1, d2, d3] }
  | _ => none }
def x86LengthsRow : OpenClaim := { program := "ytjcjalmkjncoaaa", sum := "c7ad1b8f91e809cd1853833f1ac965c4a5e2ce0f67e034e7a20bf62559d30919", func := "carafe/carafelaw19.X86Lengths", spec := "x86Lengths", apart := false }
def X86LengthsSaid : Prop := x86LengthsRow.holds Try.pinned (OpenSpec.ofChange x86LengthsSpec)

/-- ITS FALSE NEIGHBOUR: 'it returns false'. Refute it at one input. -/
def x86LengthsWrong : ChangeSpec := { name := "x86Lengths", fn := fun _ => fun
  | [d1, d2, d3] => { results := [.lit (.bool false)], args := [d1, d2, d3] }
  | _ => none }
def X86LengthsWrongFalsely : Prop := x86LengthsRow.holds Try.pinned (OpenSpec.ofChange x86LengthsWrong)

/-- 'carafelaw19.X86Writes': WHATEVER THE INPUT: true; the input reads as it did. -/
def x86WritesSpec : ChangeSpec := { name := "x86Writes", fn := fun _ => fun
  | [d] => { results := [.lit (.bool true)], args := [d] }
  | _ => none }
def x86WritesRow : OpenClaim := { program := "ytjcjalmkjncoaaa", sum := "c7ad1b8f91e809cd1853833f1ac965c4a5e2ce0f67e034e7a20bf62559d30919", func := "carafe/carafelaw19.X86Writes", spec := "x86Writes", apart := false }
def X86WritesSaid : Prop := x86WritesRow.holds Try.pinned (OpenSpec.ofChange x86WritesSpec)

/-- ITS FALSE NEIGHBOUR: 'it returns false'. Refute it at one input. -/
def x86WritesWrong : ChangeSpec := { name := "x86Writes", fn := fun _ => fun
  | [d] => { results := [.lit (.bool false)], args := [d] }
  | _ => none }
def X86WritesWrongFalsely : Prop := x86WritesRow.holds Try.pinned (OpenSpec.ofChange x86WritesWrong)

/-- 'carafelaw19.X86Numbers': WHATEVER THE INPUT: true; the input reads as it did. -/
def x86NumbersSpec : ChangeSpec := { name := "x86Numbers", fn := fun _ => fun
  | [] => { results := [.lit (.bool true)], args := [] }
  | _ => none }
def x86NumbersRow : OpenClaim := { program := "ytjcjalmkjncoaaa", sum := "c7ad1b8f91e809cd1853833f1ac965c4a5e2ce0f67e034e7a20bf62559d30919", func := "carafe/carafelaw19.X86Numbers", spec := "x86Numbers", apart := false }
def X86NumbersSaid : Prop := x86NumbersRow.holds Try.pinned (OpenSpec.ofChange x86NumbersSpec)

/-- ITS FALSE NEIGHBOUR: 'it returns false'. Refute it at one input. -/
def x86NumbersWrong : ChangeSpec := { name := "x86Numbers", fn := fun _ => fun
  | [] => { results := [.lit (.bool false)], args := [] }
  | _ => none }
def X86NumbersWrongFalsely : Prop := x86NumbersRow.holds Try.pinned (OpenSpec.ofChange x86NumbersWrong)

/-- 'carafelaw19.X86Reads': WHATEVER THE INPUT: true; the input reads as it did. -/
def x86ReadsSpec : ChangeSpec := { name := "x86Reads", fn := fun _ => fun
  | [d1, d2, d3] => { results := [.lit (.bool true)], args := [d1, d2, d3] }
  | _ => none }
def x86ReadsRow : OpenClaim := { program := "ytjcjalmkjncoaaa", sum := "c7ad1b8f91e809cd1853833f1ac965c4a5e2ce0f67e034e7a20bf62559d30919", func := "carafe/carafelaw19.X86Reads", spec := "x86Reads", apart := false }
def X86ReadsSaid : Prop := x86ReadsRow.holds Try.pinned (OpenSpec.ofChange x86ReadsSpec)

/-- ITS FALSE NEIGHBOUR: 'it returns false'. Refute it at one input. -/
def x86ReadsWrong : ChangeSpec := { name := "x86Reads", fn := fun _ => fun
  | [d1, d2, d3] => { results := [.lit (.bool false)], args := [d1, d2, d3] }
  | _ => none }
def X86ReadsWrongFalsely : Prop := x86ReadsRow.holds Try.pinned (OpenSpec.ofChange x86ReadsWrong)

/-- 'carafelaw19.X86Back': WHATEVER THE INPUT: true; the input reads as it did. -/
def x86BackSpec : ChangeSpec := { name := "x86Back", fn := fun _ => fun
  | [d1, d2] => { results := [.lit (.bool true)], args := [d1, d2] }
  | _ => none }
def x86BackRow : OpenClaim := { program := "ytjcjalmkjncoaaa", sum := "c7ad1b8f91e809cd1853833f1ac965c4a5e2ce0f67e034e7a20bf62559d30919", func := "carafe/carafelaw19.X86Back", spec := "x86Back", apart := false }
def X86BackSaid : Prop := x86BackRow.holds Try.pinned (OpenSpec.ofChange x86BackSpec)

/-- ITS FALSE NEIGHBOUR: 'it returns false'. Refute it at one input. -/
def x86BackWrong : ChangeSpec := { name := "x86Back", fn := fun _ => fun
  | [d1, d2] => { results := [.lit (.bool false)], args := [d1, d2] }
  | _ => none }
def X86BackWrongFalsely : Prop := x86BackRow.holds Try.pinned (OpenSpec.ofChange x86BackWrong)

/- THE SECOND FORM. 'bulk': how many values and letters a reading holds, each counted each time it is reached (what is shared counts as often as it is met; a slice's spare places count too). A statement '..UptoSaid' is the law's where the arguments, and the package variables that the reading takes, are together of bulk at most 1048576: NARROWER than '..Said'. Prove '..Said' where nothing that the law and all that it calls make is longer than what came in: it says more and counts as full. Else prove '..UptoSaid'. A law counts once. -/
mutual
def uptoBulk {H : Type} : DataW H → Nat
  | .lit (.string bytes) => bytes.length + 1
  | .lit _ => 1
  | .nil => 1
  | .ptr d => uptoBulk d + 1
  | .slice elems spare => uptoBulkAll elems + uptoBulkAll spare + 1
  | .agg parts => uptoBulkAll parts + 1
  | .iface _ d => uptoBulk d + 1
  | .map entries => uptoBulkEntries entries + 1
  | .held _ => 1
def uptoBulkAll {H : Type} : List (DataW H) → Nat
  | [] => 0
  | d :: r => uptoBulk d + uptoBulkAll r
def uptoBulkEntries {H : Type} : List (Lit × DataW H) → Nat
  | [] => 0
  | x :: r => uptoBulkEntry x + uptoBulkEntries r
def uptoBulkEntry {H : Type} : Lit × DataW H → Nat
  | (.string bytes, d) => bytes.length + uptoBulk d + 1
  | (_, d) => uptoBulk d + 1
 end
def uptoSmall : (H : Type) → List (DataW H) → Bool := fun _ ds => decide (uptoBulkAll ds ≤ 1048576)
def OpenSpec.upto (s : _root_.Go.ChangeSpec) : _root_.Go.OpenSpec := { _root_.Go.OpenSpec.ofChange s with cond := some uptoSmall }

/-- 'carafelaw19.X86Lengths', WHERE WHAT IT READS IS OF BULK AT MOST 1048576: true; the input reads as it did. -/
def x86LengthsUptoRow : OpenClaim := { program := "ytjcjalmkjncoaaa", sum := "c7ad1b8f91e809cd1853833f1ac965c4a5e2ce0f67e034e7a20bf62559d30919", func := "carafe/carafelaw19.X86Lengths", spec := "x86Lengths", apart := false, narrowed := true }
def X86LengthsUptoSaid : Prop := x86LengthsUptoRow.holds Try.pinned (OpenSpec.upto x86LengthsSpec)

/-- 'carafelaw19.X86Writes', WHERE WHAT IT READS IS OF BULK AT MOST 1048576: true; the input reads as it did. -/
def x86WritesUptoRow : OpenClaim := { program := "ytjcjalmkjncoaaa", sum := "c7ad1b8f91e809cd1853833f1ac965c4a5e2ce0f67e034e7a20bf62559d30919", func := "carafe/carafelaw19.X86Writes", spec := "x86Writes", apart := false, narrowed := true }
def X86WritesUptoSaid : Prop := x86WritesUptoRow.holds Try.pinned (OpenSpec.upto x86WritesSpec)

/-- 'carafelaw19.X86Numbers', WHERE WHAT IT READS IS OF BULK AT MOST 1048576: true; the input reads as it did. -/
def x86NumbersUptoRow : OpenClaim := { program := "ytjcjalmkjncoaaa", sum := "c7ad1b8f91e809cd1853833f1ac965c4a5e2ce0f67e034e7a20bf62559d30919", func := "carafe/carafelaw19.X86Numbers", spec := "x86Numbers", apart := false, narrowed := true }
def X86NumbersUptoSaid : Prop := x86NumbersUptoRow.holds Try.pinned (OpenSpec.upto x86NumbersSpec)

/-- 'carafelaw19.X86Reads', WHERE WHAT IT READS IS OF BULK AT MOST 1048576: true; the input reads as it did. -/
def x86ReadsUptoRow : OpenClaim := { program := "ytjcjalmkjncoaaa", sum := "c7ad1b8f91e809cd1853833f1ac965c4a5e2ce0f67e034e7a20bf62559d30919", func := "carafe/carafelaw19.X86Reads", spec := "x86Reads", apart := false, narrowed := true }
def X86ReadsUptoSaid : Prop := x86ReadsUptoRow.holds Try.pinned (OpenSpec.upto x86ReadsSpec)

/-- 'carafelaw19.X86Back', WHERE WHAT IT READS IS OF BULK AT MOST 1048576: true; the input reads as it did. -/
def x86BackUptoRow : OpenClaim := { program := "ytjcjalmkjncoaaa", sum := "c7ad1b8f91e809cd1853833f1ac965c4a5e2ce0f67e034e7a20bf62559d30919", func := "carafe/carafelaw19.X86Back", spec := "x86Back", apart := false, narrowed := true }
def X86BackUptoSaid : Prop := x86BackUptoRow.holds Try.pinned (OpenSpec.upto x86BackSpec)

end Rows
end Go.Proofs.Ytjcjalmkjncoaaa
