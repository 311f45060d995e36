/-
  Both Join's: what they make of a list of instructions.
-/
import Derived.Test.YtjcjalmkjncoaaaWrParts
namespace Go.Proofs.Ytjcjalmkjncoaaa.wr
open Go Go.RowKit
open Go.Proofs.Ytjcjalmkjncoaaa
set_option linter.unusedVariables false
set_option linter.unusedSimpArgs false
theorem info5 : (Try.prog.info? 5).map (fun i => (i.zero, i.size, i.bytes)) = some (some (.int .u8 0), 1, 1) := by kernel_rfl
/-- the bytes of the first k -/
def cat (Bs : Nat → List Int) (k : Nat) : List Int := (List.range k).flatMap Bs
theorem cat_succ (Bs : Nat → List Int) (k : Nat) : cat Bs (k + 1) = cat Bs k ++ Bs k := by simp [cat, List.range_succ]
theorem cat_le (Bs : Nat → List Int) (h : ∀ i, (Bs i).length ≤ 10) : ∀ k, (cat Bs k).length ≤ 10 * k
  | 0 => by simp [cat]
  | k + 1 => by rw [cat_succ, List.length_append]; have := cat_le Bs h k; have := h k; omega
theorem all_succ {E : Nat → Int} {k : Nat} (h : ∀ i, i < k → E i = 0) (hE : E k = 0) : ∀ i, i < k + 1 → E i = 0 := by
  intro i hi
  by_cases hik : i < k
  · exact h i hik
  · have : i = k := by omega
    subst this; exact hE
def u8s (l : List Int) : List Value := l.map (Value.int .u8)
theorem u8s_append (a b : List Int) : u8s (a ++ b) = u8s a ++ u8s b := by simp [u8s]
theorem u8s_length (a : List Int) : (u8s a).length = a.length := by simp [u8s]
/-- what is joined: all, or the first refusal -/
def Joined (E : Nat → Int) (Bs : Nat → List Int) (n : Nat) (e : Int) (bs : List Int) : Prop :=
  (e = 0 ∧ (∀ i, i < n → E i = 0) ∧ bs = cat Bs n) ∨ (∃ k, k < n ∧ (∀ i, i < k → E i = 0) ∧ E k = e ∧ e ≠ 0 ∧ bs = [])
theorem Joined.unique {E : Nat → Int} {Bs : Nat → List Int} {n : Nat} {e e' : Int} {bs bs' : List Int} (h : Joined E Bs n e bs) (h' : Joined E Bs n e' bs') : e = e' ∧ bs = bs' := by
  rcases h with ⟨a1, a2, a3⟩ | ⟨k, k1, k2, k3, k4, k5⟩ <;> rcases h' with ⟨b1, b2, b3⟩ | ⟨q, q1, q2, q3, q4, q5⟩
  · exact ⟨by rw [a1, b1], by rw [a3, b3]⟩
  · exact absurd ((a2 q q1).symm.trans q3).symm q4
  · exact absurd ((b2 k k1).symm.trans k3).symm k4
  · have : k = q := by
      rcases Nat.lt_trichotomy k q with h | h | h
      · exact absurd ((q2 k h).symm.trans k3).symm k4
      · exact h
      · exact absurd ((k2 q h).symm.trans q3).symm q4
    subst this
    exact ⟨k3.symm.trans q3, by rw [k5, q5]⟩
/-- a row of the call's own stays behind what turns above it -/
theorem own_below {w w' : World} {base e size n : Nat} {v : Value} {xs : List Value} (h : w.ownsRow base e size v n xs) (hb : Below w.heap.size w w') : w'.ownsRow base e size v n xs := by
  obtain ⟨h1, h2⟩ := h
  refine ⟨h1, ?_⟩
  rcases h2 with h2 | ⟨g, cap, cur, hv, hg, hh, hr⟩
  · exact .inl h2
  · refine .inr ⟨g, cap, cur, hv, hg, ?_, hr⟩
    rw [hb.block g ?_]
    · exact hh
    · apply Nat.lt_of_not_le
      intro hge
      have hn : w.heap[g]? = none := by simp [hge]
      rw [hn] at hh; cases hh
theorem bytes_own {w : World} {B n : Nat} {v : Value} {bs : List Int} (h : w.ownsRow B 5 1 v bs.length (u8s bs)) : Bytes B w v bs := by
  have h0 := h
  have hlt := h.lt
  obtain ⟨h1, h2⟩ := h
  rcases h2 with ⟨hv, hn⟩ | ⟨g, cap, cur, rfl, hg, hh, hn, hcap, hsz, htake⟩
  · have : bs = [] := List.length_eq_zero_iff.1 hn
    subst this
    exact .inl ⟨rfl, none, 0, hv⟩
  · by_cases hb : bs = []
    · subst hb; exact .inl ⟨rfl, _, cap, rfl⟩
    · refine .inr ⟨hb, g, 0, cap, rfl, hg, (hlt g rfl).2, fun j hj => ?_⟩
      rw [Nat.zero_add, h0.cellAt j (by omega)]
      simp [u8s, List.getD, hj]
/-- the cells of an instruction -/
structure At (w : World) (b off : Nat) (op a x n : Int) : Prop where
  c0 : w.cell? ⟨b, off, none⟩ = some (.int .i64 op)
  c1 : w.cell? ⟨b, off + 1, none⟩ = some (.int .i64 a)
  c2 : w.cell? ⟨b, off + 2, none⟩ = some (.int .i64 x)
  c3 : w.cell? ⟨b, off + 3, none⟩ = some (.int .i32 n)
/-- a list of instructions -/
def Ins (w : World) (B : Nat) (ad : Option Addr) (len : Nat) (O A X M : Nat → Int) : Prop :=
  ∀ i, i < len → ∃ b off, ad = some ⟨b, off, none⟩ ∧ b < B ∧ At w b (off + i * 4) (O i) (A i) (X i) (M i)
theorem At.mono {w w' : World} {B b off : Nat} {op a x n : Int} (h : At w b off op a x n) (hb : Below B w w') (hlt : b < B) : At w' b off op a x n :=
  ⟨(hb.cell hlt).trans h.c0, (hb.cell hlt).trans h.c1, (hb.cell hlt).trans h.c2, (hb.cell hlt).trans h.c3⟩
theorem Ins.mono {w w' : World} {B B' : Nat} {ad : Option Addr} {len : Nat} {O A X M : Nat → Int} (h : Ins w B ad len O A X M) (hb : Below B w w') (hB : B ≤ B') : Ins w' B' ad len O A X M := by
  intro i hi
  obtain ⟨b, off, h1, h2, h3⟩ := h i hi
  exact ⟨b, off, h1, by omega, h3.mono hb h2⟩

set_option maxHeartbeats 1600000 in
set_option maxRecDepth 1000000 in
theorem join14 (ad : Option Addr) (n cap : Nat) (O A X M : Nat → Int) (w : World) (hn : n ≤ 100) (h : Ins w w.heap.size ad n O A X M) :
    Calls Try.prog 14 #[.slice ad n cap] w fun e w' => ∃ v er bs, e = .returned (.tuple #[v, .int .i64 er]) ∧ Joined (fun i => encE (O i) (A i) (X i) (M i)) (fun i => encB (O i) (A i) (X i) (M i)) n er bs ∧ Bytes w.heap.size w' v bs ∧ Below w.heap.size w w' := by
  obtain ⟨i0, hi, hz0, hz1, hz2⟩ := info_parts info5
  go_enter Try.func14, Try.ntmps14
  go_wp2
  go_loopw [4, 11] (fun v i wr => ∃ k : Nat, k ≤ n ∧ i = .int .i64 k ∧ wr.ownsRow w.heap.size 5 1 v (cat (fun i => encB (O i) (A i) (X i) (M i)) k).length (u8s (cat (fun i => encB (O i) (A i) (X i) (M i)) k)) ∧ Below w.heap.size w wr ∧ Hid (∀ i, i < k → encE (O i) (A i) (X i) (M i) = 0))
    (fun _ i _ => n - (intOf i).toNat)
  case atStart => exact ⟨0, Nat.zero_le _, rfl, World.ownsRow_nil _ _ _ _, Below.refl _ _, fun i hi => by omega⟩
  case round =>
    obtain ⟨k, hk, rfl, hown, hbel, hall⟩ := hrel
    by_cases hk1 : k < n
    · obtain ⟨b, off, he, hb, hat⟩ := h k hk1
      cases he
      obtain ⟨d0, d1, d2, d3⟩ := hat.mono hbel hb
      have hsh := enc_short (O k) (A k) (X k) (M k)
      have hle := cat_le (fun i => encB (O i) (A i) (X i) (M i)) (fun i => enc_short _ _ _ _) k
      have hsz := hbel.size
      rcases enc_fit (O k) (A k) (X k) (M k) with ⟨hE, hB⟩ | ⟨hE, hB⟩
      · have C := enc12C (O k) (A k) (X k) (M k) (wr.alloc (.cells #[.int .i64 (O k), .int .i64 (A k), .int .i64 (X k), .int .i32 (M k)] 32))
        rw [hE] at C
        go_wp2_with (first | (go_at_call 12; refine C.mono ?_; rintro e w1 ⟨v, rfl, hby, hb1⟩; obtain ⟨blk, base, cp, rfl, hb2, hb3, hb4⟩ := (hby.resolve_left (fun h => hB h.1)).2; have hown1 := own_below (hown.alloc _) hb1; have hbel1 := (hbel.alloc hbel.size _).trans (hb1.mono (by simp; have := hbel.size; omega))) | (at_builtin; refine wpList_append_own _ rfl _ _ 33 rfl w.heap.size 5 i0 (.int .u8 0) 1 1 Try.underlying33 hi hz0 hz1 hz2 rfl (by decide) _ _ _ rfl hown1 ⟨blk, base, none⟩ _ cp (u8s (encB (O k) (A k) (X k) (M k))) rfl (by simp [u8s]) ?c1 ?c2 ?c3 ?c4 ?c5 ?_))
        case c1 =>
          intro j u hj
          rw [u8s, List.getElem?_map] at hj
          rw [Go.WideShapes.add_plain]
          by_cases hlt : j < (encB (O k) (A k) (X k) (M k)).length
          · rw [hb4 j hlt]
            have hbj : (encB (O k) (A k) (X k) (M k))[j]? = some ((encB (O k) (A k) (X k) (M k)).getD j 0) := by simp [List.getD, hlt]
            rw [hbj] at hj
            exact hj
          · have hbj : (encB (O k) (A k) (X k) (M k))[j]? = none := by simp; omega
            rw [hbj] at hj; cases hj
        case c2 => intro u hu; simp only [u8s, List.mem_map] at hu; obtain ⟨_, _, rfl⟩ := hu; rfl
        case c3 => unfold maxLen; omega
        case c4 => omega
        case c5 => have := hbel1.size; omega
        intro v' w2 hown' hgrow _
        have hbel2 : Below w.heap.size w w2 := hbel1.grown hgrow (by have := hbel1.size; omega) (fun j hj => (hown1.lt j hj).1)
        have hown2 : w2.ownsRow w.heap.size 5 1 v' (cat (fun i => encB (O i) (A i) (X i) (M i)) (k + 1)).length (u8s (cat (fun i => encB (O i) (A i) (X i) (M i)) (k + 1))) := by
          rw [cat_succ, u8s_append, List.length_append]; exact hown'
        clear hown' hgrow hown1 hown
        go_wp2
        go_roundw
        case rel => exact ⟨k + 1, by omega, by go_num, hown2, hbel2, all_succ hall.out hE⟩
        case measure => simp [intOf]; omega
      · have C := enc12C (O k) (A k) (X k) (M k) (wr.alloc (.cells #[.int .i64 (O k), .int .i64 (A k), .int .i64 (X k), .int .i32 (M k)] 32))
        go_wp2_with (go_at_call 12; refine C.mono ?_; rintro e w1 ⟨v, rfl, hby, hb1⟩)
        go_ret2
        exact ⟨_, _, [], rfl, .inr ⟨k, hk1, hall.out, rfl, hE, rfl⟩, .inl ⟨rfl, none, 0, rfl⟩, (hbel.alloc hbel.size _).trans (hb1.mono (by simp; have := hbel.size; omega))⟩
    · have hkn : k = n := by omega
      subst hkn
      go_wp2
      go_ret2
      exact ⟨_, _, _, rfl, .inl ⟨rfl, hall.out, rfl⟩, bytes_own (n := 0) hown, hbel⟩
set_option maxHeartbeats 1600000 in
set_option maxRecDepth 1000000 in
theorem join15 (ad : Option Addr) (n cap : Nat) (O A X M : Nat → Int) (w : World) (hn : n ≤ 100) (h : Ins w w.heap.size ad n O A X M) :
    Calls Try.prog 15 #[.slice ad n cap] w fun e w' => ∃ v er bs, e = .returned (.tuple #[v, .int .i64 er]) ∧ Joined (fun i => encE (O i) (A i) (X i) (M i)) (fun i => encB (O i) (A i) (X i) (M i)) n er bs ∧ Bytes w.heap.size w' v bs ∧ Below w.heap.size w w' := by
  obtain ⟨i0, hi, hz0, hz1, hz2⟩ := info_parts info5
  go_enter Try.func15, Try.ntmps15
  go_wp2
  go_loopw [4, 5] (fun v i wr => ∃ k : Nat, k ≤ n ∧ i = .int .i64 k ∧ wr.ownsRow w.heap.size 5 1 v (cat (fun i => encB (O i) (A i) (X i) (M i)) k).length (u8s (cat (fun i => encB (O i) (A i) (X i) (M i)) k)) ∧ Below w.heap.size w wr ∧ Hid (∀ i, i < k → encE (O i) (A i) (X i) (M i) = 0))
    (fun _ i _ => n - (intOf i).toNat)
  case atStart => exact ⟨0, Nat.zero_le _, rfl, World.ownsRow_nil _ _ _ _, Below.refl _ _, fun i hi => by omega⟩
  case round =>
    obtain ⟨k, hk, rfl, hown, hbel, hall⟩ := hrel
    by_cases hk1 : k < n
    · obtain ⟨b, off, he, hb, hat⟩ := h k hk1
      cases he
      obtain ⟨d0, d1, d2, d3⟩ := hat.mono hbel hb
      have hsh := enc_short (O k) (A k) (X k) (M k)
      have hle := cat_le (fun i => encB (O i) (A i) (X i) (M i)) (fun i => enc_short _ _ _ _) k
      have hsz := hbel.size
      rcases enc_fit (O k) (A k) (X k) (M k) with ⟨hE, hB⟩ | ⟨hE, hB⟩
      · have C := enc13C (O k) (A k) (X k) (M k) wr
        rw [hE] at C
        go_wp2_with (first | (go_at_call 13; refine C.mono ?_; rintro e w1 ⟨v, rfl, hby, hb1⟩; obtain ⟨blk, base, cp, rfl, hb2, hb3, hb4⟩ := (hby.resolve_left (fun h => hB h.1)).2; have hown1 := own_below (hown) hb1; have hbel1 := hbel.trans (hb1.mono (by exact hbel.size))) | (at_builtin; refine wpList_append_own _ rfl _ _ 33 rfl w.heap.size 5 i0 (.int .u8 0) 1 1 Try.underlying33 hi hz0 hz1 hz2 rfl (by decide) _ _ _ rfl hown1 ⟨blk, base, none⟩ _ cp (u8s (encB (O k) (A k) (X k) (M k))) rfl (by simp [u8s]) ?c1 ?c2 ?c3 ?c4 ?c5 ?_))
        case c1 =>
          intro j u hj
          rw [u8s, List.getElem?_map] at hj
          rw [Go.WideShapes.add_plain]
          by_cases hlt : j < (encB (O k) (A k) (X k) (M k)).length
          · rw [hb4 j hlt]
            have hbj : (encB (O k) (A k) (X k) (M k))[j]? = some ((encB (O k) (A k) (X k) (M k)).getD j 0) := by simp [List.getD, hlt]
            rw [hbj] at hj
            exact hj
          · have hbj : (encB (O k) (A k) (X k) (M k))[j]? = none := by simp; omega
            rw [hbj] at hj; cases hj
        case c2 => intro u hu; simp only [u8s, List.mem_map] at hu; obtain ⟨_, _, rfl⟩ := hu; rfl
        case c3 => unfold maxLen; omega
        case c4 => omega
        case c5 => have := hbel1.size; omega
        intro v' w2 hown' hgrow _
        have hbel2 : Below w.heap.size w w2 := hbel1.grown hgrow (by have := hbel1.size; omega) (fun j hj => (hown1.lt j hj).1)
        have hown2 : w2.ownsRow w.heap.size 5 1 v' (cat (fun i => encB (O i) (A i) (X i) (M i)) (k + 1)).length (u8s (cat (fun i => encB (O i) (A i) (X i) (M i)) (k + 1))) := by
          rw [cat_succ, u8s_append, List.length_append]; exact hown'
        clear hown' hgrow hown1 hown
        go_wp2
        go_roundw
        case rel => exact ⟨k + 1, by omega, by go_num, hown2, hbel2, all_succ hall.out hE⟩
        case measure => simp [intOf]; omega
      · have C := enc13C (O k) (A k) (X k) (M k) wr
        go_wp2_with (go_at_call 13; refine C.mono ?_; rintro e w1 ⟨v, rfl, hby, hb1⟩)
        go_ret2
        exact ⟨_, _, [], rfl, .inr ⟨k, hk1, hall.out, rfl, hE, rfl⟩, .inl ⟨rfl, none, 0, rfl⟩, hbel.trans (hb1.mono (by exact hbel.size))⟩
    · have hkn : k = n := by omega
      subst hkn
      go_wp2
      go_ret2
      exact ⟨_, _, _, rfl, .inl ⟨rfl, hall.out, rfl⟩, bytes_own (n := 0) hown, hbel⟩
end Go.Proofs.Ytjcjalmkjncoaaa.wr
