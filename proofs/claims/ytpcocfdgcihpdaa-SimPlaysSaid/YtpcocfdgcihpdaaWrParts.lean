/-
  The contract of both Encode's in the form that a walk takes: a value, its bytes, its number; the text of some bytes.
-/
import Derived.Test.YtpcocfdgcihpdaaX86Len
import Derived.Test.YtpcocfdgcihpdaaRows
import Derived.WalkKit
import Derived.Laws.BytesString
import Derived.OpenShut
set_option maxHeartbeats 64000000
set_option maxRecDepth 1000000
set_option linter.unusedVariables false
set_option linter.unusedSimpArgs false
namespace Go.Proofs.Ytpcocfdgcihpdaa.wr
open Go Go.RowKit
open Go.Proofs.Ytpcocfdgcihpdaa Go.Proofs.Ytpcocfdgcihpdaa.x86enc
set_option linter.unusedVariables false
set_option linter.unusedSimpArgs false
/-! ### what Encode answers is fit -/
def Good (o : Option (Int × List Int)) : Prop := ∃ e bs, o = some (e, bs) ∧ ((e = 0 ∧ bs ≠ []) ∨ (e ≠ 0 ∧ bs = [])) ∧ bs.length ≤ 10
theorem good_nd {b : Bool} {x y : Option (Int × List Int)} (hx : Good x) (hy : Good y) : Good (Eng.nd b x y) := by
  cases b with
  | true => rw [Eng.nd_true]; exact hx
  | false => rw [Eng.nd_false]; exact hy
theorem good_err {e : Int} (h : e ≠ 0) : Good (some (e, [])) := ⟨e, [], rfl, .inr ⟨h, rfl⟩, by simp⟩
theorem good_ok {e a : Int} {l : List Int} (h0 : e = 0) (h : l.length ≤ 9) : Good (some (e, a :: l)) := ⟨e, a :: l, rfl, .inl ⟨h0, by simp⟩, by simp; omega⟩
theorem good_1 (a b n : Int) : Good (u1 a b n) := by
  unfold u1
  repeat (first | apply good_nd | exact good_err (by decide) | exact good_ok rfl (by simp))
theorem good_2 (a b n : Int) : Good (u2 a b n) := by
  unfold u2
  repeat (first | apply good_nd | exact good_err (by decide) | exact good_ok rfl (by simp))
theorem good_3 (a b n : Int) : Good (u3 a b n) := by
  unfold u3
  repeat (first | apply good_nd | exact good_err (by decide) | exact good_ok rfl (by simp))
theorem good_4 (a b n : Int) : Good (u4 a b n) := by
  unfold u4
  repeat (first | apply good_nd | exact good_err (by decide) | exact good_ok rfl (by simp))
theorem good_5 (a b n : Int) : Good (u5 a b n) := by
  unfold u5
  repeat (first | apply good_nd | exact good_err (by decide) | exact good_ok rfl (by simp))
theorem good_6 (a b n : Int) : Good (u6 a b n) := by
  unfold u6
  repeat (first | apply good_nd | exact good_err (by decide) | exact good_ok rfl (by simp))
theorem good_7 (a b n : Int) : Good (u7 a b n) := by
  unfold u7
  repeat (first | apply good_nd | exact good_err (by decide) | exact good_ok rfl (by simp))
theorem good_8 (a b n : Int) : Good (u8 a b n) := by
  unfold u8
  repeat (first | apply good_nd | exact good_err (by decide) | exact good_ok rfl (by simp))
theorem good_9 (a b n : Int) : Good (u9 a b n) := by
  unfold u9
  repeat (first | apply good_nd | exact good_err (by decide) | exact good_ok rfl (by simp))
theorem good_10 (a b n : Int) : Good (u10 a b n) := by
  unfold u10
  repeat (first | apply good_nd | exact good_err (by decide) | exact good_ok rfl (by simp))
theorem good_11 (a b n : Int) : Good (u11 a b n) := by
  unfold u11
  repeat (first | apply good_nd | exact good_err (by decide) | exact good_ok rfl (by simp))
theorem good_12 (a b n : Int) : Good (u12 a b n) := by
  unfold u12
  repeat (first | apply good_nd | exact good_err (by decide) | exact good_ok rfl (by simp))
theorem good_13 (a b n : Int) : Good (u13 a b n) := by
  unfold u13
  repeat (first | apply good_nd | exact good_err (by decide) | exact good_ok rfl (by simp))
theorem good_14 (a b n : Int) : Good (u14 a b n) := by
  unfold u14
  repeat (first | apply good_nd | exact good_err (by decide) | exact good_ok rfl (by simp))
theorem good_15 (a b n : Int) : Good (u15 a b n) := by
  unfold u15
  repeat (first | apply good_nd | exact good_err (by decide) | exact good_ok rfl (by simp))
theorem good_16 (a b n : Int) : Good (u16 a b n) := by
  unfold u16
  repeat (first | apply good_nd | exact good_err (by decide) | exact good_ok rfl (by simp))
theorem good_17 (a b n : Int) : Good (u17 a b n) := by
  unfold u17
  repeat (first | apply good_nd | exact good_err (by decide) | exact good_ok rfl (by simp))
theorem good_18 (a b n : Int) : Good (u18 a b n) := by
  unfold u18
  repeat (first | apply good_nd | exact good_err (by decide) | exact good_ok rfl (by simp))
theorem good_19 (a b n : Int) : Good (u19 a b n) := by
  unfold u19
  repeat (first | apply good_nd | exact good_err (by decide) | exact good_ok rfl (by simp))
theorem good_20 (a b n : Int) : Good (u20 a b n) := by
  unfold u20
  repeat (first | apply good_nd | exact good_err (by decide) | exact good_ok rfl (by simp))
theorem good_21 (a b n : Int) : Good (u21 a b n) := by
  unfold u21
  repeat (first | apply good_nd | exact good_err (by decide) | exact good_ok rfl (by simp))
theorem good_22 (a b n : Int) : Good (u22 a b n) := by
  unfold u22
  repeat (first | apply good_nd | exact good_err (by decide) | exact good_ok rfl (by simp))
theorem good_23 (a b n : Int) : Good (u23 a b n) := by
  unfold u23
  repeat (first | apply good_nd | exact good_err (by decide) | exact good_ok rfl (by simp))
theorem good_24 (a b n : Int) : Good (u24 a b n) := by
  unfold u24
  repeat (first | apply good_nd | exact good_err (by decide) | exact good_ok rfl (by simp))
theorem good_25 (a b n : Int) : Good (u25 a b n) := by
  unfold u25
  repeat (first | apply good_nd | exact good_err (by decide) | exact good_ok rfl (by simp))
theorem good_26 (a b n : Int) : Good (u26 a b n) := by
  unfold u26
  repeat (first | apply good_nd | exact good_err (by decide) | exact good_ok rfl (by simp))
theorem good (op a b n : Int) : Good (encO op a b n) := by
  rw [encU_eq]
  unfold encU
  exact (good_nd (good_1 a b n) (good_nd (good_2 a b n) (good_nd (good_3 a b n) (good_nd (good_4 a b n) (good_nd (good_5 a b n) (good_nd (good_6 a b n) (good_nd (good_7 a b n) (good_nd (good_8 a b n) (good_nd (good_9 a b n) (good_nd (good_10 a b n) (good_nd (good_11 a b n) (good_nd (good_12 a b n) (good_nd (good_13 a b n) (good_nd (good_14 a b n) (good_nd (good_15 a b n) (good_nd (good_16 a b n) (good_nd (good_17 a b n) (good_nd (good_18 a b n) (good_nd (good_19 a b n) (good_nd (good_20 a b n) (good_nd (good_21 a b n) (good_nd (good_22 a b n) (good_nd (good_23 a b n) (good_nd (good_24 a b n) (good_nd (good_25 a b n) (good_nd (good_26 a b n) (good_err (by decide))))))))))))))))))))))))))))
def encE (op a b n : Int) : Int := ((encO op a b n).getD (0, [])).1
def encB (op a b n : Int) : List Int := ((encO op a b n).getD (0, [])).2
theorem enc_some (op a b n : Int) : encO op a b n = some (encE op a b n, encB op a b n) := by
  obtain ⟨e, bs, h, _⟩ := good op a b n
  unfold encE encB
  rw [h]; rfl
theorem enc_fit (op a b n : Int) : (encE op a b n = 0 ∧ encB op a b n ≠ []) ∨ (encE op a b n ≠ 0 ∧ encB op a b n = []) := by
  obtain ⟨e, bs, h, h2, _⟩ := good op a b n
  unfold encE encB
  rw [h]; exact h2
theorem enc_short (op a b n : Int) : (encB op a b n).length ≤ 10 := by
  obtain ⟨e, bs, h, _, h3⟩ := good op a b n
  unfold encB
  rw [h]; exact h3
/-! ### bytes in memory -/
def Bytes (B : Nat) (w : World) (v : Value) (bs : List Int) : Prop :=
  (bs = [] ∧ ∃ ad cap, v = .slice ad 0 cap) ∨ (bs ≠ [] ∧ ∃ (blk base cap : Nat), v = .slice (some ⟨blk, base, none⟩) bs.length cap ∧ B ≤ blk ∧ blk < w.heap.size ∧ ∀ j, j < bs.length → w.cell? ⟨blk, base + j, none⟩ = some (.int .u8 (bs.getD j 0)))
theorem Bytes.mono {B B' : Nat} {w w' : World} {v : Value} {bs : List Int} (h : Bytes B w v bs) (hb : Below w.heap.size w w') (hB : B' ≤ B) : Bytes B' w' v bs := by
  rcases h with h | ⟨h0, blk, base, cap, h1, h2, h3, h4⟩
  · exact .inl h
  · exact .inr ⟨h0, blk, base, cap, h1, by omega, Nat.lt_of_lt_of_le h3 hb.size, fun j hj => (hb.cell h3).trans (h4 j hj)⟩
theorem bytes_of {w w' : World} {e : Int} {bs : List Int} {cv : Value} (h : Eng.BytesRes w w' e bs cv) : ∃ v, cv = .tuple #[v, .int .i64 e] ∧ Bytes w.heap.size w' v bs := by
  rcases h with ⟨h1, h2⟩ | ⟨h0, v, ⟨blk, base, cap, arr, t, fr, hv, hblk, harr, _, hle, hcap, hbs⟩, h2⟩
  · exact ⟨_, h2, .inl ⟨h1, _, _, rfl⟩⟩
  · refine ⟨_, h2, .inr ⟨h0, blk, base, cap, hv, hblk, ?_, fun j hj => ?_⟩⟩
    · apply Nat.lt_of_not_le
      intro hge
      have hn : w'.heap[blk]? = none := by simp [hge]
      rw [hn] at harr; cases harr
    · have hj2 : ((arr.toList.drop base).take bs.length)[j]? = (bs.map (Value.int .u8))[j]? := by rw [hbs]
      rw [List.getElem?_take, if_pos hj, List.getElem?_drop, List.getElem?_map] at hj2
      have hb : bs[j]? = some (bs.getD j 0) := by simp [List.getD, hj]
      rw [hb] at hj2
      simp only [World.cell?, harr]
      simpa using hj2
theorem enc12C (op a b n : Int) (w : World) : Calls Try.prog 56 #[.agg #[.int .i64 op, .int .i64 a, .int .i64 b, .int .i32 n]] w fun e w' =>
    ∃ v, e = .returned (.tuple #[v, .int .i64 (encE op a b n)]) ∧ Bytes w.heap.size w' v (encB op a b n) ∧ Below w.heap.size w w' := by
  refine (enc12 op a b n _ _ (enc_some op a b n) w).mono fun e w' h => ?_
  obtain ⟨⟨cv, rfl, hc⟩, hb⟩ := h
  obtain ⟨v, rfl, hv⟩ := bytes_of hc
  exact ⟨v, rfl, hv, hb⟩
theorem enc13C (op a b n : Int) (w : World) : Calls Try.prog 27 #[.agg #[.int .i64 op, .int .i64 a, .int .i64 b, .int .i32 n]] w fun e w' =>
    ∃ v, e = .returned (.tuple #[v, .int .i64 (encE op a b n)]) ∧ Bytes w.heap.size w' v (encB op a b n) ∧ Below w.heap.size w w' := by
  refine (enc13 op a b n _ _ (enc_some op a b n) w).mono fun e w' h => ?_
  obtain ⟨⟨cv, rfl, hc⟩, hb⟩ := h
  obtain ⟨v, rfl, hv⟩ := bytes_of hc
  exact ⟨v, rfl, hv, hb⟩
/-! ### the text of some bytes -/
end Go.Proofs.Ytpcocfdgcihpdaa.wr
