/-
  The lists that both Roots make, round by round; what a round does to the loop's relation (plain Lean and worlds).
-/
import Derived.Test.YtnjoljlffcocoaaRows
import Derived.WalkKit
namespace Go.Proofs.Ytnjoljlffcocoaa.rt
open Go Go.RowKit
open Go.Proofs.Ytnjoljlffcocoaa
theorem info3 : (Try.prog.info? 3).map (fun i => (i.zero, i.size, i.bytes)) = some (some (.int .i64 0), 1, 8) := by kernel_rfl

def R1 (L V : Nat → Bool) (nv k : Nat) : List Nat := (List.range k).filter fun n => L n && (decide (n < nv) && V n)
def R2 (S : Nat → Bool) (nl k : Nat) : List Nat := ((List.range k).filter S).map (nl + ·)
def ints (l : List Nat) : List Value := l.map fun (n : Nat) => Value.int .i64 (n : Int)
theorem ints_length (l : List Nat) : (ints l).length = l.length := by simp [ints]
theorem ints_snoc (l : List Nat) (n : Nat) : ints (l ++ [n]) = ints l ++ [.int .i64 (n : Int)] := by simp [ints]
theorem R1_hit {L V : Nat → Bool} {nv k : Nat} (h : (L k && (decide (k < nv) && V k)) = true) : R1 L V nv (k + 1) = R1 L V nv k ++ [k] := by
  simp only [R1, List.range_succ, List.filter_append, List.filter_cons, h, List.filter_nil, if_true]
theorem R1_miss {L V : Nat → Bool} {nv k : Nat} (h : (L k && (decide (k < nv) && V k)) = false) : R1 L V nv (k + 1) = R1 L V nv k := by
  simp [R1, List.range_succ, List.filter_append, List.filter_cons, h]
theorem R2_hit {S : Nat → Bool} {nl k : Nat} (h : S k = true) : R2 S nl (k + 1) = R2 S nl k ++ [nl + k] := by
  simp [R2, List.range_succ, List.filter_append, List.filter_cons, h]
theorem R2_miss {S : Nat → Bool} {nl k : Nat} (h : S k = false) : R2 S nl (k + 1) = R2 S nl k := by
  simp [R2, List.range_succ, List.filter_append, List.filter_cons, h]
theorem R1_le (L V : Nat → Bool) (nv k : Nat) : (R1 L V nv k).length ≤ k := Nat.le_trans (List.length_filter_le _ _) (by simp)
theorem R2_le (S : Nat → Bool) (nl k : Nat) : (R2 S nl k).length ≤ k := by
  unfold R2; rw [List.length_map]; exact Nat.le_trans (List.length_filter_le _ _) (by simp)
theorem R1_lt {L V : Nat → Bool} {nv k : Nat} : ∀ n ∈ R1 L V nv k, n < k := by
  intro n hn; unfold R1 at hn; exact List.mem_range.1 (List.mem_filter.1 hn).1
theorem range_sorted (k : Nat) : (List.range k).Pairwise (· < ·) := List.pairwise_lt_range
theorem R1_sorted (L V : Nat → Bool) (nv k : Nat) : (R1 L V nv k).Pairwise (· < ·) := (range_sorted k).filter _
theorem R2_sorted (S : Nat → Bool) (nl k : Nat) : (R2 S nl k).Pairwise (· < ·) := by
  unfold R2
  rw [List.pairwise_map]
  exact ((range_sorted k).filter _).imp fun h => by omega
theorem R2_ge {S : Nat → Bool} {nl k : Nat} : ∀ n ∈ R2 S nl k, nl ≤ n := by
  intro n hn; unfold R2 at hn; obtain ⟨m, _, rfl⟩ := List.mem_map.1 hn; omega
/-- the whole list -/
def R (L V S : Nat → Bool) (nl nv ns : Nat) : List Nat := R1 L V nv nl ++ R2 S nl ns
theorem R_sorted (L V S : Nat → Bool) (nl nv ns : Nat) : (R L V S nl nv ns).Pairwise (· < ·) :=
  List.pairwise_append.2 ⟨R1_sorted _ _ _ _, R2_sorted _ _ _, fun a ha b hb => by have := R1_lt a ha; have := R2_ge b hb; omega⟩

/-- a slice of truths that came in -/
def Arg (w : World) (B : Nat) (ad : Option Addr) (len : Nat) (Z : Nat → Bool) : Prop :=
  ∀ i, i < len → ∃ b off, ad = some ⟨b, off, none⟩ ∧ b < B ∧ w.cell? ⟨b, off + i, none⟩ = some (.bool (Z i))
/-- what stays through the loops: the struct's own block, what is gathered, what lies below -/
structure Rel (B : Nat) (w wr : World) (m : Array Value) (t : TypeId) (v : Value) (xs : List Nat) : Prop where
  box : wr.heap[B]? = some (.cells m t (0, 0))
  own : wr.ownsRow (B + 1) 3 1 v xs.length (ints xs)
  below : Below B w wr
  size : B + 1 ≤ wr.heap.size
theorem Rel.drew {B : Nat} {w wr : World} {m : Array Value} {t : TypeId} {v : Value} {xs : List Nat} (h : Rel B w wr m t v xs) : Rel B w wr.drew m t v xs := ⟨h.box, h.own, h.below.drew, h.size⟩
theorem Rel.hit {B : Nat} {w wr w1 : World} {m : Array Value} {t : TypeId} {v v' : Value} {xs : List Nat} {n : Nat} {o : Obj} (h : Rel B w wr m t v xs)
    (hown' : w1.ownsRow (B + 1) 3 1 v' (xs.length + 1) (ints xs ++ [.int .i64 (n : Int)])) (hgrow : (wr.alloc o).grownBy w1 v.ownBlock) : Rel B w w1 m t v' (xs ++ [n]) := by
  have hs := h.size
  have hne : some B ≠ v.ownBlock := fun e => by have := h.own.lt B e.symm; omega
  refine ⟨?_, ?_, (h.below.alloc (by omega) o).grown hgrow (by simp; omega) (fun j hj => by have := (h.own.lt j hj).1; omega), ?_⟩
  · rw [hgrow.block B (by simp; omega) hne, Below.heap_alloc _ _ _ (by omega)]; exact h.box
  · rw [ints_snoc]; simpa using hown'
  · have := hgrow.size; simp at this; omega
theorem Rel.start (w : World) (m : Array Value) (t : TypeId) (xs : List Nat) (hx : xs = []) : Rel w.heap.size w (w.alloc (.cells m t)) m t (.slice none 0 0) xs := by
  subst hx
  exact ⟨heap_alloc_new w _, World.ownsRow_nil _ _ _ _, (Below.refl _ _).alloc (Nat.le_refl _) _, by simp⟩
theorem Rel.cellAt {B : Nat} {w wr : World} {m : Array Value} {t : TypeId} {v : Value} {xs : List Nat} (h : Rel B w wr m t v xs) {j : Nat} {u : Value} (hj : m[j]? = some u) : wr.cell? ⟨B, j, none⟩ = some u := by
  have := h.box
  simp [World.cell?, this, hj]
theorem Arg.at {w wr : World} {B : Nat} {ad : Option Addr} {len : Nat} {Z : Nat → Bool} (h : Arg w B ad len Z) (hb : Below B w wr) {i : Nat} (hi : i < len) : ∃ b off, ad = some ⟨b, off, none⟩ ∧ wr.cell? ⟨b, off + i, none⟩ = some (.bool (Z i)) := by
  obtain ⟨b, off, h1, h2, h3⟩ := h i hi
  exact ⟨b, off, h1, (hb.cell h2).trans h3⟩
end Go.Proofs.Ytnjoljlffcocoaa.rt
