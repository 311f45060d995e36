/-
  THE ENGINE: hints: at which truths that are not worked out the evaluator goes one way alone (1: true, 2: false), by their tags. They bind nothing: a wrong one answers nothing.
-/
namespace Go.Proofs.YtondggcbldnhcaaGreat.Eng
def hintAt : List (Nat × Nat) → Nat → Nat
  | [], _ => 0
  | (a, b) :: l, g => match Nat.beq a g with
    | true => b
    | false => hintAt l g
def hintTab : List (Nat × Nat) := []
def hintOf (g : Nat) : Nat := hintAt hintTab g
end Go.Proofs.YtondggcbldnhcaaGreat.Eng
