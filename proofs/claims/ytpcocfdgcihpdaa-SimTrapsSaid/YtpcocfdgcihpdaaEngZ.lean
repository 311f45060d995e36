/-
  THE ENGINE, PART Z: a run with numbers that are not worked out goes one way: a chain of truths, each with the way that goes on.
-/
import Derived.Test.YtpcocfdgcihpdaaEngY
namespace Go.Proofs.Ytpcocfdgcihpdaa.Eng
open Go
/-- a truth, and both ways -/
def nd {β : Type} (c : Bool) (x y : Option β) : Option β :=
  match c with
  | true => x
  | false => y
theorem nd_true {β : Type} (x y : Option β) : nd true x y = x := rfl
theorem nd_false {β : Type} (x y : Option β) : nd false x y = y := rfl
/-- each truth; the way that goes on; what stands on the other -/
def chain {β : Type} : List (Bool × Bool × Option β) → Option β → Option β
  | [], r => r
  | (c, w, z) :: l, r => match c with
    | true => match w with
      | true => chain l r
      | false => z
    | false => match w with
      | true => z
      | false => chain l r
def chainOK {β : Type} : List (Bool × Bool × Option β) → Prop
  | [] => True
  | (c, w, _) :: l => c = w ∧ chainOK l
theorem chain_ok {β : Type} {r : Option β} : ∀ (l : List (Bool × Bool × Option β)), chainOK l → chain l r = r
  | [], _ => rfl
  | (c, w, z) :: l, h => by
    obtain ⟨h1, h2⟩ := h
    subst h1
    have := chain_ok (r := r) l h2
    cases c
    · exact this
    · exact this
end Go.Proofs.Ytpcocfdgcihpdaa.Eng
