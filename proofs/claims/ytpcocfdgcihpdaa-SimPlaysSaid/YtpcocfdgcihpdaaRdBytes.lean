/-
  bytes.Equal and bytes.HasPrefix (contracts off the kit's shelf), in the words of lists; a written instruction in memory.
-/
import Derived.Test.YtpcocfdgcihpdaaRdLink
import Derived.Test.YtpcocfdgcihpdaaRdHdr
import Derived.Lib.Strings
import Derived.Lib.Slices
import Derived.Lib.Walk
import Derived.Lib.Bytes
set_option maxHeartbeats 64000000
set_option maxRecDepth 1000000
set_option linter.unusedVariables false
set_option linter.unusedSimpArgs false
namespace Go.Proofs.Ytpcocfdgcihpdaa.rdw
open Go Go.RowKit
open Go.Proofs.Ytpcocfdgcihpdaa Go.Proofs.Ytpcocfdgcihpdaa.wr Go.Proofs.Ytpcocfdgcihpdaa.x86enc
set_option linter.unusedVariables false
set_option linter.unusedSimpArgs false
theorem bytes_Equal (v1 v2 : Value) (xs ys : List Int) (w : World)
    (h1 : (convert 27 9 v1).run Try.prog w = .ok (.string (strOfNums xs)) w) (h2 : (convert 27 9 v2).run Try.prog w = .ok (.string (strOfNums ys)) w) :
    Calls Try.prog 58 #[v1, v2] w fun e w' => e = .returned (.bool (Lib.bytesOf xs == Lib.bytesOf ys)) ∧ w' = w := by
  rw [← Lib.strOfNums_toList, ← Lib.strOfNums_toList]
  go_enter Try.func58, Try.ntmps58
  go_wp2
  go_ret
  exact ⟨rfl, rfl⟩
theorem bytes_HasPrefix (b1 o1 n c b2 o2 m d : Nat) (xs ys : List Int) (w : World) (hx : xs.length = n) (hy : ys.length = m) (hnc : n ≤ c)
    (hc1 : ∀ i, i < n → w.cell? ⟨b1, o1 + i, none⟩ = some (.int .u8 (xs.getD i 0))) (hc2 : ∀ i, i < m → w.cell? ⟨b2, o2 + i, none⟩ = some (.int .u8 (ys.getD i 0))) :
    Calls Try.prog 57 #[.slice (some ⟨b1, o1, none⟩) n c, .slice (some ⟨b2, o2, none⟩) m d] w fun e w' => e = .returned (.bool (Lib.hasPrefix (Lib.bytesOf xs) (Lib.bytesOf ys))) ∧ w' = w := by
  rw [← Lib.bytes_hasPrefix, hx, hy]
  have g2 := run_convert_bytes_arg (P := Try.prog) w 27 5 Try.underlying27 Try.underlying5 b2 o2 m d ys hy hc2 9 Try.underlying9
  have g1 : m ≤ n → (convert 27 9 (.slice (some ⟨b1, o1, none⟩) m c)).run Try.prog w = .ok (.string (strOfNums (xs.take m))) w := fun h =>
    run_convert_bytes_arg (P := Try.prog) w 27 5 Try.underlying27 Try.underlying5 b1 o1 m c (xs.take m) (by simp; omega) (fun i hi => by rw [Lib.getD_take _ _ _ hi]; exact hc1 i (by omega)) 9 Try.underlying9
  go_enter Try.func57, Try.ntmps57
  go_wp2_with (go_at_call 58; refine (bytes_Equal _ _ (xs.take m) ys _ (g1 (by assumption)) g2).mono ?_; rintro e w' ⟨rfl, rfl⟩)
  · have h : m ≤ n := by assumption
    go_ret
    refine ⟨?_, rfl⟩
    rw [decide_eq_true h, Bool.true_and]
    rfl
  · have h : ¬ m ≤ n := by assumption
    go_ret
    refine ⟨?_, rfl⟩
    rw [decide_eq_false h, Bool.false_and]
    rfl
theorem bytesOf_inj : ∀ {xs ys : List Int}, RD.isBytes xs → RD.isBytes ys → Lib.bytesOf xs = Lib.bytesOf ys → xs = ys
  | [], [], _, _, _ => rfl
  | [], _ :: _, _, _, h => by simp [Lib.bytesOf] at h
  | _ :: _, [], _, _, h => by simp [Lib.bytesOf] at h
  | a :: l, b :: m, h1, h2, h => by
    simp only [Lib.bytesOf, List.map_cons, List.cons.injEq] at h
    obtain ⟨ha, h⟩ := h
    have := bytesOf_inj (fun v hv => h1 v (List.mem_cons_of_mem _ hv)) (fun v hv => h2 v (List.mem_cons_of_mem _ hv)) h
    have ra := h1 a (List.mem_cons_self ..); have rb := h2 b (List.mem_cons_self ..)
    have e := congrArg UInt8.toNat ha
    simp only [UInt8.toNat_ofNat'] at e
    rw [this]; congr 1; omega
theorem prefix_iff {xs ys : List Int} (hx : RD.isBytes xs) (hy : RD.isBytes ys) : Lib.hasPrefix (Lib.bytesOf xs) (Lib.bytesOf ys) = decide (ys <+: xs) := by
  rw [Bool.eq_iff_iff, decide_eq_true_iff]
  unfold Lib.hasPrefix
  rw [List.isPrefixOf_iff_prefix]
  constructor
  · rintro ⟨t, ht⟩
    refine ⟨xs.drop ys.length, ?_⟩
    apply bytesOf_inj
    · intro v hv
      rcases List.mem_append.1 hv with h | h
      · exact hy v h
      · exact hx v (List.mem_of_mem_drop h)
    · exact hx
    · have hl : (Lib.bytesOf ys).length = ys.length := by simp [Lib.bytesOf]
      have e : Lib.bytesOf (xs.drop ys.length) = t := by
        unfold Lib.bytesOf at ht ⊢
        rw [List.map_drop, ← ht]; simp
      unfold Lib.bytesOf at e ht ⊢
      rw [List.map_append, e, ht]
  · rintro ⟨t, rfl⟩
    exact ⟨Lib.bytesOf t, by simp [Lib.bytesOf]⟩
theorem equal_iff {xs ys : List Int} (hx : RD.isBytes xs) (hy : RD.isBytes ys) : (Lib.bytesOf xs == Lib.bytesOf ys) = decide (xs = ys) := by
  rw [Bool.eq_iff_iff, decide_eq_true_iff, beq_iff_eq]
  exact ⟨bytesOf_inj hx hy, fun h => by rw [h]⟩
theorem pre40 (b1 o1 c b2 o2 d : Nat) (xs ys : List Int) (w : World) (hx : RD.isBytes xs) (hy : RD.isBytes ys) (hnc : xs.length ≤ c)
    (hc1 : ∀ i, i < xs.length → w.cell? ⟨b1, o1 + i, none⟩ = some (.int .u8 (xs.getD i 0))) (hc2 : ∀ i, i < ys.length → w.cell? ⟨b2, o2 + i, none⟩ = some (.int .u8 (ys.getD i 0))) :
    Calls Try.prog 57 #[.slice (some ⟨b1, o1, none⟩) xs.length c, .slice (some ⟨b2, o2, none⟩) ys.length d] w fun e w' => e = .returned (.bool (decide (ys <+: xs))) ∧ w' = w := by
  rw [← prefix_iff hx hy]
  exact bytes_HasPrefix b1 o1 _ c b2 o2 _ d xs ys w rfl rfl hnc hc1 hc2
theorem eq41 (b1 o1 c b2 o2 d : Nat) (xs ys : List Int) (w : World) (hx : RD.isBytes xs) (hy : RD.isBytes ys)
    (hc1 : ∀ i, i < xs.length → w.cell? ⟨b1, o1 + i, none⟩ = some (.int .u8 (xs.getD i 0))) (hc2 : ∀ i, i < ys.length → w.cell? ⟨b2, o2 + i, none⟩ = some (.int .u8 (ys.getD i 0))) :
    Calls Try.prog 58 #[.slice (some ⟨b1, o1, none⟩) xs.length c, .slice (some ⟨b2, o2, none⟩) ys.length d] w fun e w' => e = .returned (.bool (decide (xs = ys))) ∧ w' = w := by
  rw [← equal_iff hx hy]
  exact bytes_Equal _ _ xs ys w (run_convert_bytes_arg (P := Try.prog) w 27 5 Try.underlying27 Try.underlying5 b1 o1 _ c xs rfl hc1 9 Try.underlying9) (run_convert_bytes_arg (P := Try.prog) w 27 5 Try.underlying27 Try.underlying5 b2 o2 _ d ys rfl hc2 9 Try.underlying9)
def EncAt (w w' : World) (bs : List Int) (v : Value) : Prop := ∃ blk base cp : Nat, v = .slice (some ⟨blk, base, none⟩) bs.length cp ∧ w.heap.size ≤ blk ∧ blk < w'.heap.size ∧ bs.length ≤ cp ∧ ∀ j, j < bs.length → w'.cell? ⟨blk, base + j, none⟩ = some (.int .u8 (bs.getD j 0))
theorem encAt_of {w w' : World} {e : Int} {bs : List Int} {cv : Value} (hne : bs ≠ []) (h : Eng.BytesRes w w' e bs cv) : ∃ v, cv = .tuple #[v, .int .i64 e] ∧ EncAt w w' bs v := by
  rcases h with ⟨h1, h2⟩ | ⟨h0, v, ⟨blk, base, cap, arr, t, fr, hv, hblk, harr, _, hle, hcap, hbs⟩, h2⟩
  · exact absurd h1 hne
  · refine ⟨_, h2, blk, base, cap, hv, hblk, ?_, hle, fun j hj => ?_⟩
    · apply Nat.lt_of_not_le
      intro hge
      have hn : w'.heap[blk]? = none := by simp [hge]
      rw [hn] at harr; cases harr
    · have hj2 : ((arr.toList.drop base).take bs.length)[j]? = (bs.map (Value.int .u8))[j]? := by rw [hbs]
      rw [List.getElem?_take, if_pos hj, List.getElem?_drop, List.getElem?_map] at hj2
      have hb : bs[j]? = some (bs.getD j 0) := by simp [List.getD, hj]
      rw [hb] at hj2
      simp only [World.cell?, harr]
      simpa using hj2
theorem enc_ne (k : Nat) (a b n : Int) : RD.enc k a b n ≠ [] := by
  intro h
  have h2 : (RD.enc k a b n).length = 0 := by rw [h]; rfl
  rw [RD.enc_length] at h2
  have := RD.head_pos k a b
  omega
theorem encV12 (k : Nat) (h1 : 1 ≤ k) (h2 : k ≤ 26) (a b n : Int) (hv : RD.valid k a b n = true) (w : World) : Calls Try.prog 56 #[.agg #[.int .i64 (k : Int), .int .i64 a, .int .i64 b, .int .i32 n]] w fun e w' =>
    ∃ v, e = .returned (.tuple #[v, .int .i64 0]) ∧ EncAt w w' (RD.enc k a b n) v ∧ Below w.heap.size w w' := by
  refine (enc12 k a b n _ _ (encO_yes k h1 h2 a b n hv) w).mono fun e w' h => ?_
  obtain ⟨⟨cv, rfl, hc⟩, hb⟩ := h
  obtain ⟨v, rfl, hv⟩ := encAt_of (enc_ne k a b n) hc
  exact ⟨v, rfl, hv, hb⟩
theorem encV13 (k : Nat) (h1 : 1 ≤ k) (h2 : k ≤ 26) (a b n : Int) (hv : RD.valid k a b n = true) (w : World) : Calls Try.prog 27 #[.agg #[.int .i64 (k : Int), .int .i64 a, .int .i64 b, .int .i32 n]] w fun e w' =>
    ∃ v, e = .returned (.tuple #[v, .int .i64 0]) ∧ EncAt w w' (RD.enc k a b n) v ∧ Below w.heap.size w w' := by
  refine (enc13 k a b n _ _ (encO_yes k h1 h2 a b n hv) w).mono fun e w' h => ?_
  obtain ⟨⟨cv, rfl, hc⟩, hb⟩ := h
  obtain ⟨v, rfl, hv⟩ := encAt_of (enc_ne k a b n) hc
  exact ⟨v, rfl, hv, hb⟩
end Go.Proofs.Ytpcocfdgcihpdaa.rdw
