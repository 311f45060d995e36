/-
  What is given is right; what is turned is right just if it may be so.
-/
import Derived.Test.YtkejnhmhbmbhcaaAlMp
set_option maxHeartbeats 64000000
set_option maxRecDepth 1000000
set_option linter.unusedVariables false
set_option linter.unusedSimpArgs false
namespace Go.Proofs.Ytkejnhmhbmbhcaa.al
open Go Go.RowKit Go.BigFrame Go.Maps
open Go.Proofs.Ytkejnhmhbmbhcaa
structure Pl (s : AlScan.Sps) (R n : Nat) (reg spill : Nat → Int) : Prop where
  form : Form n reg spill
  lt : ∀ i, i < n → reg i < (R : Int)
  apart : ∀ i j, i < n → j < n → i ≠ j → 0 ≤ reg i → reg i = reg j → ¬ (s.F i ≤ s.T j ∧ s.F j ≤ s.T i)
  sp : ∀ i j, i < n → j < n → i ≠ j → 0 ≤ spill i → spill i ≠ spill j
theorem Pl.of {s : AlScan.Sps} {R n : Nat} {E : Nat → Nat} {a : AlScan.St} (o : AlScan.Ordr s n E) (h : AlScan.At s R n n E a) (hc : a.cnt ≤ 1000) : Pl s R n a.reg a.spill := by
  obtain ⟨d, now, hi, hd, _⟩ := h.inv
  have hin : ∀ i, i < n → i ∈ d := fun i hi => (hd i).2 (o.on i hi)
  refine ⟨fun i hi' => ?_, fun i hi' => ?_, fun i j h1 h2 hne h0 e hm => ?_, fun i j h1 h2 hne h0 => hi.spills i (hin i h1) j (hin j h2) hne h0⟩
  · rcases h.each o i hi' with ⟨e1, e2, e3⟩ | ⟨r, e1, e2, e3⟩
    · exact .inr ⟨e1, (a.spill i).toNat, by omega, by omega⟩
    · exact .inl ⟨r, e2, e3⟩
  · rcases h.each o i hi' with ⟨e1, e2, e3⟩ | ⟨r, e1, e2, e3⟩ <;> omega
  · rcases hi.apart i (hin i h1) j (hin j h2) hne h0 e with h3 | h3 <;> omega
theorem cq_zero {reg spill : Nat → Int} {q : Int} : ∀ i, (∀ j, j < i → ¬ (reg j = -1 ∧ spill j = q)) → cq reg spill i q = 0
  | 0, _ => rfl
  | i + 1, h => by
    simp only [cq]
    rw [cq_zero i (fun j hj => h j (by omega)), if_neg (h i (by omega))]
theorem cq_one {s : AlScan.Sps} {n : Nat} {reg spill : Nat → Int} (hf : Form n reg spill) (hs : ∀ i j, i < n → j < n → i ≠ j → 0 ≤ spill i → spill i ≠ spill j) {i : Nat} (hi : i < n) : cq reg spill (i + 1) (spill i) ≤ 1 := by
  rcases hf i hi with ⟨r, e1, e2⟩ | ⟨e1, q, hq, e2⟩
  · rw [e2, cq_neg hf (i + 1) (by omega)]; omega
  · simp only [cq]
    rw [cq_zero i (fun j hj h => hs i j hi (by omega) (by omega) (by omega) h.2.symm)]
    split <;> omega
theorem Pl.right {s : AlScan.Sps} {R n : Nat} {reg spill : Nat → Int} (h : Pl s R n reg spill) : RightP s s.V reg spill R n := fun i hi =>
  ⟨rfl, h.lt i hi, fun k hk ⟨h1, h2, h3, h4⟩ => h.apart i k hi (by omega) (by omega) h1 h2.symm ⟨h4, h3⟩, cq_one (s := s) h.form h.sp hi⟩
theorem meet14 (v f t v' f' t' : Int) (w : World) : Calls Try.prog 14 #[.agg #[.int .i64 v, .int .i64 f, .int .i64 t], .agg #[.int .i64 v', .int .i64 f', .int .i64 t']] w fun e w' => e = .returned (.bool (decide (f ≤ t' ∧ f' ≤ t))) ∧ ∃ o1 o2, w' = (w.alloc o1).alloc o2 := by
  by_cases h1 : f ≤ t'
  · have d1 : decide (f ≤ t') = true := decide_eq_true h1
    by_cases h2 : f' ≤ t
    · have d2 : decide (f' ≤ t) = true := decide_eq_true h2
      have hd : decide (f ≤ t' ∧ f' ≤ t) = true := decide_eq_true ⟨h1, h2⟩
      rw [hd]
      clear h1 h2 hd
      go_enter Try.func14, Try.ntmps14
      go_wp2_with fail
      go_ret
      exact ⟨rfl, _, _, rfl⟩
    · have d2 : decide (f' ≤ t) = false := decide_eq_false h2
      have hd : decide (f ≤ t' ∧ f' ≤ t) = false := decide_eq_false (fun h => h2 h.2)
      rw [hd]
      clear h1 h2 hd
      go_enter Try.func14, Try.ntmps14
      go_wp2_with fail
      go_ret
      exact ⟨rfl, _, _, rfl⟩
  · have d1 : decide (f ≤ t') = false := decide_eq_false h1
    have hd : decide (f ≤ t' ∧ f' ≤ t) = false := decide_eq_false (fun h => h1 h.1)
    rw [hd]
    clear h1 hd
    go_enter Try.func14, Try.ntmps14
    go_wp2_with fail
    go_ret
    exact ⟨rfl, _, _, rfl⟩
end Go.Proofs.Ytkejnhmhbmbhcaa.al
