/-
  caraferef11.Roots: what it makes of three slices of truths.
-/
import Derived.Test.YtnjoljlffcocoaaRtParts
namespace Go.Proofs.Ytnjoljlffcocoaa.rt
open Go Go.RowKit
open Go.Proofs.Ytnjoljlffcocoaa
set_option linter.unusedVariables false
set_option linter.unusedSimpArgs false
set_option maxHeartbeats 1600000 in
set_option maxRecDepth 1000000 in
theorem roots6 (at_ : Int) (a1 a2 a3 : Option Addr) (l1 c1 l2 c2 l3 c3 : Nat) (L S V : Nat → Bool) (w : World) (h1 : l1 ≤ 1048576) (h2 : l2 ≤ 1048576) (h3 : l3 ≤ 1048576)
    (hL : Arg w w.heap.size a1 l1 L) (hS : Arg w w.heap.size a2 l2 S) (hV : Arg w w.heap.size a3 l3 V) :
    Calls Try.prog 6 #[.agg #[.int .i64 at_, .slice a1 l1 c1, .slice a2 l2 c2, .slice a3 l3 c3]] w fun e w' =>
      ∃ v, e = .returned v ∧ w'.ownsRow (w.heap.size + 1) 3 1 v (R L V S l1 l3 l2).length (ints (R L V S l1 l3 l2)) ∧ Below w.heap.size w w' := by
  obtain ⟨i0, hi, hz0, hz1, hz2⟩ := info_parts info3
  go_enter Try.func6, Try.ntmps6
  go_wp2
  go_loopw [3, 4] (fun v i wr => ∃ k : Nat, k ≤ l1 ∧ i = .int .i64 k ∧ Rel w.heap.size w wr #[.int .i64 at_, .slice a1 l1 c1, .slice a2 l2 c2, .slice a3 l3 c3] 29 v (R1 L V l3 k))
    (fun _ i _ => l1 - (intOf i).toNat)
  case atStart => exact ⟨0, Nat.zero_le _, rfl, Rel.start _ _ _ _ rfl⟩
  case round =>
    obtain ⟨k, hk, rfl, hrel⟩ := hrel
    have hc1 : wr.cell? ⟨w.heap.size, 1, none⟩ = some (.slice a1 l1 c1) := hrel.cellAt rfl
    have hc2 : wr.cell? ⟨w.heap.size, 2, none⟩ = some (.slice a2 l2 c2) := hrel.cellAt rfl
    have hc3 : wr.cell? ⟨w.heap.size, 3, none⟩ = some (.slice a3 l3 c3) := hrel.cellAt rfl
    have hle := R1_le L V l3 k
    by_cases hk1 : k < l1
    · obtain ⟨b, off, rfl, hcx⟩ := hL.at hrel.below hk1
      cases hLk : L k
      · skip
        go_wp2
        go_roundw
        case rel => exact ⟨k + 1, by omega, by go_num, by rw [R1_miss (by simp [hLk])]; exact hrel⟩
        case measure => simp [intOf]; omega
      · skip
        by_cases hk3 : k < l3
        · obtain ⟨b3, off3, rfl, hcy⟩ := hV.at hrel.below hk3
          cases hVk : V k
          · skip
            go_wp2
            go_roundw
            case rel => exact ⟨k + 1, by omega, by go_num, by rw [R1_miss (by simp [hVk])]; exact hrel⟩
            case measure => simp [intOf]; omega
          · skip
            go_wp2_with (at_builtin; refine wpList_append_own _ rfl _ _ 25 rfl (w.heap.size + 1) 3 i0 (.int .i64 0) 1 8 Try.underlying25 hi hz0 hz1 hz2 rfl (by decide) _ _ _ rfl (hrel.own.alloc _) ⟨wr.heap.size, 0, none⟩ 1 1 [.int .i64 ((k : Nat))] rfl rfl ?p1 ?p2 ?p3 ?p4 ?p5 ?_)
            case p1 =>
              intro j u hj
              match j, hj with
              | 0, hj => simp at hj; subst hj; simp [Addr.add]
            case p2 => intro u hu; simp at hu; subst hu; rfl
            case p3 => (try simp only [List.length_append]); unfold maxLen; omega
            case p4 => (try simp only [List.length_append]); omega
            case p5 => have := hrel.size; simp; omega
            intro v' w1 hown' hgrow _
            have R' := hrel.hit (n := k) (by simpa using hown') hgrow
            clear hown' hgrow
            go_wp2
            go_roundw
            case rel => exact ⟨k + 1, by omega, by go_num, by rw [R1_hit (by simp [hLk, hVk, hk3])]; simpa using R'⟩
            case measure => simp [intOf]; omega
        · go_wp2
          go_roundw
          case rel => exact ⟨k + 1, by omega, by go_num, by rw [R1_miss (by simp [hk3])]; exact hrel⟩
          case measure => simp [intOf]; omega
    · have hkl : k = l1 := by omega
      subst hkl
      clear hk1
      go_wp2
      have hrelA := hrel
      clear hrel
      go_loopw [3, 5] (fun v i wr => ∃ q : Nat, q ≤ l2 ∧ i = .int .i64 q ∧ Rel w.heap.size w wr #[.int .i64 at_, .slice a1 k c1, .slice a2 l2 c2, .slice a3 l3 c3] 29 v (R1 L V l3 k ++ R2 S k q))
        (fun _ i _ => l2 - (intOf i).toNat)
      case atStart => exact ⟨0, Nat.zero_le _, rfl, by simpa [R2] using hrelA⟩
      case round =>
        obtain ⟨q, hq, rfl, hrel⟩ := hrel
        clear hc1 hc2 hc3 hrelA
        have hc1 : wr.cell? ⟨w.heap.size, 1, none⟩ = some (.slice a1 k c1) := hrel.cellAt rfl
        have hc2 : wr.cell? ⟨w.heap.size, 2, none⟩ = some (.slice a2 l2 c2) := hrel.cellAt rfl
        have hle2 := R2_le S k q
        by_cases hq2 : q < l2
        · obtain ⟨b2, off2, rfl, hcx⟩ := hS.at hrel.below hq2
          cases hSq : S q
          · go_wp2
            go_roundw
            case rel => exact ⟨q + 1, by omega, by go_num, by rw [R2_miss hSq]; exact hrel⟩
            case measure => simp [intOf]; omega
          · go_wp2_with (at_builtin; refine wpList_append_own _ rfl _ _ 25 rfl (w.heap.size + 1) 3 i0 (.int .i64 0) 1 8 Try.underlying25 hi hz0 hz1 hz2 rfl (by decide) _ _ _ rfl (hrel.own.alloc _) ⟨wr.heap.size, 0, none⟩ 1 1 [.int .i64 ((k + q : Nat))] rfl rfl ?t1 ?t2 ?t3 ?t4 ?t5 ?_)
            case t1 =>
              intro j u hj
              match j, hj with
              | 0, hj => simp at hj; subst hj; simp [Addr.add]
            case t2 => intro u hu; simp at hu; subst hu; rfl
            case t3 => (try simp only [List.length_append]); unfold maxLen; omega
            case t4 => (try simp only [List.length_append]); omega
            case t5 => have := hrel.size; simp; omega
            intro v' w1 hown' hgrow _
            have R' := hrel.hit (n := k + q) (by simpa using hown') hgrow
            clear hown' hgrow
            go_wp2
            go_roundw
            case rel => exact ⟨q + 1, by omega, by go_num, by rw [R2_hit hSq, ← List.append_assoc]; simpa using R'⟩
            case measure => simp [intOf]; omega
        · have hql : q = l2 := by omega
          subst hql
          go_wp2
          go_ret
          exact ⟨_, rfl, hrel.own, hrel.below⟩
end Go.Proofs.Ytnjoljlffcocoaa.rt
