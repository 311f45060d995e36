/-
  THE ENGINE: hints: at which truths that are not worked out the evaluator goes one way alone (1: true, 2: false), by their tags. They bind nothing: a wrong one answers nothing.
-/
namespace Go.Proofs.Ytpcocfdgcihpdaa.Eng
def hintAt : List (Nat × Nat) → Nat → Nat
  | [], _ => 0
  | (a, b) :: l, g => match Nat.beq a g with
    | true => b
    | false => hintAt l g
def hintTab : List (Nat × Nat) :=
  [(466188385, 2), (20199704, 2), (361704287, 1), (190955489, 2), (224630412, 1), (191060218, 2), (250818914, 2), (20723349, 2), (191164947, 2), (20618620, 2), (124037577, 1), (729297214, 2), (649438763, 2), (558750887, 2), (962901774, 2), (558855616, 2), (592868151, 1), (729820859, 2), (729611401, 2), (559065074, 2), (781886776, 2), (97092605, 2), (937173239, 1), (267848390, 2), (701173129, 2), (97302063, 2), (934917388, 1), (268267306, 2), (97406792, 2), (268162577, 2)]
def hintOf (g : Nat) : Nat := hintAt hintTab g
end Go.Proofs.Ytpcocfdgcihpdaa.Eng
