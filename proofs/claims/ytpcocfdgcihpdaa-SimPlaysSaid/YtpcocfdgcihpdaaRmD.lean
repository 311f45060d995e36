/-
  caraferef20: do, operation by operation
-/
import Derived.Test.YtpcocfdgcihpdaaRmJ
set_option maxHeartbeats 64000000
set_option maxRecDepth 1000000
set_option linter.unusedVariables false
set_option linter.unusedSimpArgs false
namespace Go.Proofs.Ytpcocfdgcihpdaa.rdw
open Go Go.RowKit Go.BigFrame
open Go.Proofs.Ytpcocfdgcihpdaa Go.Proofs.Ytpcocfdgcihpdaa.wr Go.Proofs.Ytpcocfdgcihpdaa.x86enc
theorem do33_25 (g gw : Nat) (cv kv : Value) (m : Mach) (l : Int) (a b : Nat) (n : Int) (k : Ok33 g gw m a b n) (w : World) (h : NMem w g cv (wsl gw m.W.length) kv m l) (hw : WMem w gw m.W) : DoC g gw cv kv m l 25 25 a b n w := by
  obtain ⟨hR, ha, hb, hn, hat, hl, hgg⟩ := k
  have S := Lib.hid (St.start (op := 25) (a := a) (b := b) (n := n) h hw)
  clear h hw
  unfold DoC
  obtain ⟨ha', hb', e1, e2⟩ := ab_facts hR ha hb
  have HR := Lib.hid hR; clear hR
  have J : Hid (∀ w9 : World, Calls Try.prog 49 #[ptr g, .int .i64 25] w9 fun e w' => e = .returned (.bool false) ∧ w' = w9) := Lib.hid fun w9 => jumps49_no 25 (by omega) (by omega) (by omega) g m w9
  go_enter Try.func33, Try.ntmps33
  go_upto_region 1 with fail
  generalize w.alloc (.cells #[.int .i64 25, .int .i64 (a : Int), .int .i64 (b : Int), .int .i32 n] 63) = w1 at *
  obtain ⟨B, hB⟩ : ∃ B, w.heap.size = B := ⟨_, rfl⟩
  rw [hB] at S ⊢
  clear hB
  obtain ⟨b0, b1, b2, b3, ca, cb, ck⟩ := S.out.cells ha hb
  go_quiet (fail)
  generalize nq = n1 at *
  go_wp2_with fail
  go_quiet (fail)
  generalize nq = n2 at *
  go_upto_region 50 with fail
  have T := Lib.hid (S.out.drewN (n1 + n2))
  clear b0 b1 b2 b3 ca cb ck S
  generalize w1.drewN (n1 + n2) = w2 at *
  obtain ⟨b0, b1, b2, b3, ca, cb, ck⟩ := T.out.cells ha hb
  have fa := T.out.h.froz (1 + a)
  go_wp2_with fail
  go_ret
  exact T.out.fin hgg rfl T.out.h (Only.refl _ _)
theorem do33_26 (g gw : Nat) (cv kv : Value) (m : Mach) (l : Int) (a b : Nat) (n : Int) (k : Ok33 g gw m a b n) (w : World) (h : NMem w g cv (wsl gw m.W.length) kv m l) (hw : WMem w gw m.W) : DoC g gw cv kv m l 26 26 a b n w := by
  obtain ⟨hR, ha, hb, hn, hat, hl, hgg⟩ := k
  have S := Lib.hid (St.start (op := 26) (a := a) (b := b) (n := n) h hw)
  clear h hw
  unfold DoC
  obtain ⟨ha', hb', e1, e2⟩ := ab_facts hR ha hb
  have HR := Lib.hid hR; clear hR
  have e5 : IntKind.i64.wrap n = n := by unfold I32 at hn; rw [IntKind.wrap_i64]; omega
  have J : Hid (∀ w9 : World, Calls Try.prog 49 #[ptr g, .int .i64 26] w9 fun e w' => e = .returned (.bool false) ∧ w' = w9) := Lib.hid fun w9 => jumps49_no 26 (by omega) (by omega) (by omega) g m w9
  go_enter Try.func33, Try.ntmps33
  go_upto_region 1 with fail
  generalize w.alloc (.cells #[.int .i64 26, .int .i64 (a : Int), .int .i64 (b : Int), .int .i32 n] 63) = w1 at *
  obtain ⟨B, hB⟩ : ∃ B, w.heap.size = B := ⟨_, rfl⟩
  rw [hB] at S ⊢
  clear hB
  obtain ⟨b0, b1, b2, b3, ca, cb, ck⟩ := S.out.cells ha hb
  go_quiet (fail)
  generalize nq = n1 at *
  go_wp2_with fail
  go_quiet (fail)
  generalize nq = n2 at *
  go_upto_region 52 with fail
  have T := Lib.hid (S.out.drewN (n1 + n2))
  clear b0 b1 b2 b3 ca cb ck S
  generalize w1.drewN (n1 + n2) = w2 at *
  obtain ⟨b0, b1, b2, b3, ca, cb, ck⟩ := T.out.cells ha hb
  have fa := T.out.h.froz (1 + a)
  have g21 := T.out.h.cell 22 rfl
  have f21 := T.out.h.froz 22
  go_wp2_with fail
  go_ret
  exact T.out.fin hgg rfl (T.out.h.set 22 (.int .i64 n) (m' := { m with N := n }) (l' := l) rfl) ((Only.refl _ _).set _ (by simp))
theorem do33_j (o : Int) (op : Nat) (hop : JO o op) (g gw : Nat) (cv kv : Value) (m : Mach) (l : Int) (a b : Nat) (n : Int) (k : Ok33 g gw m a b n) (w : World) (h : NMem w g cv (wsl gw m.W.length) kv m l) (hw : WMem w gw m.W) : DoC g gw cv kv m l o op a b n w := by
  obtain ⟨hR, ha, hb, hn, hat, hl, hgg⟩ := k
  have S := Lib.hid (St.start (op := o) (a := a) (b := b) (n := n) h hw)
  clear h hw
  unfold DoC
  obtain ⟨ha', hb', e1, e2⟩ := ab_facts hR ha hb
  clear hR
  have e5 : IntKind.i64.wrap n = n := by unfold I32 at hn; rw [IntKind.wrap_i64]; omega
  have e6 : IntKind.i64.wrap (m.at_ + n) = m.at_ + n := by unfold I32 at hn; rw [IntKind.wrap_i64]; omega
  obtain ⟨t, ht⟩ : ∃ t, m.at_ = t := ⟨_, rfl⟩
  rw [ht] at e6
  have HT := Lib.hid ht; clear ht hat
  have J := Lib.hid (fun W => jumps49 o op hop g cv (wsl gw m.W.length) kv m l W)
  obtain ⟨go, hgo⟩ : ∃ go, goes m op = go := ⟨_, rfl⟩
  rw [hgo] at J
  obtain ⟨t2, ht2⟩ : ∃ t2, (if go = true then t + n else t) = t2 := ⟨_, rfl⟩
  have hx : exA m op a b n = ({ m with at_ := t2 }, 1) := by
    rw [← ht2, ← hgo, ← HT.out]
    rcases hop with ⟨rfl, rfl⟩ | ⟨rfl, rfl⟩ | ⟨rfl, rfl⟩ | ⟨rfl, rfl⟩ | ⟨rfl, rfl⟩ | ⟨rfl, rfl⟩ | ⟨rfl, rfl⟩ <;> rfl
  have HT2 := Lib.hid ht2; clear ht2
  rw [hx]
  clear hx hgo
  obtain ⟨w1, hw1⟩ : ∃ w1, w.alloc (.cells #[.int .i64 o, .int .i64 (a : Int), .int .i64 (b : Int), .int .i32 n] 63) = w1 := ⟨_, rfl⟩
  rw [hw1] at S
  have HW1 := Lib.hid hw1; clear hw1
  rcases hop with ⟨rfl, rfl⟩ | ⟨rfl, rfl⟩ | ⟨rfl, rfl⟩ | ⟨rfl, rfl⟩ | ⟨rfl, rfl⟩ | ⟨rfl, rfl⟩ | ⟨rfl, rfl⟩
  all_goals
    go_enter Try.func33, Try.ntmps33
    go_upto_region 1 with fail
    rw [HW1.out]
    obtain ⟨B, hB⟩ : ∃ B, w.heap.size = B := ⟨_, rfl⟩
    rw [hB] at S ⊢
    clear hB
    obtain ⟨b0, b1, b2, b3, ca, cb, ck⟩ := S.out.cells ha hb
    go_quiet (fail)
    generalize nq = n1 at *
    go_wp2_with fail
    go_quiet (fail)
    generalize nq = n2 at *
    go_upto_region 54 with fail
    have T := Lib.hid (S.out.drewN (n1 + n2))
    clear b0 b1 b2 b3 ca cb ck S
    generalize w1.drewN (n1 + n2) = w2 at *
    obtain ⟨b0, b1, b2, b3, ca, cb, ck⟩ := T.out.cells ha hb
    have g18 := T.out.h.cell 18 rfl
    have f18 := T.out.h.froz 18
    rw [HT.out] at g18
    have J2 := Lib.hid (J.out w2 T.out.h)
    clear ca cb ck
    cases go
    · go_wp2_with (go_at_call 49; with_reducible refine J2.out.mono ?_; rintro e w9 ⟨rfl, jj, rfl⟩)
      go_ret
      have e9 : t2 = m.at_ := by have := HT2.out; rw [HT.out]; simpa using this.symm
      exact T.out.fin hgg rfl (by rw [e9]; exact ⟨T.out.h.h⟩) (only_drewN _ _ _)
    · go_wp2_with (go_at_call 49; with_reducible refine J2.out.mono ?_; rintro e w9 ⟨rfl, jj, rfl⟩)
      go_region
      have HM3 := Lib.hid ((show NMem (w2.drewN (jj + 1)) g cv (wsl gw m.W.length) kv m l from ⟨T.out.h.h⟩).set 18 (.int .i64 (t + n)) (m' := { m with at_ := t + n }) (l' := l) rfl)
      have HO3 := Lib.hid ((only_drewN [g] w2 (jj + 1)).set (g := g) (j := 18) (.int .i64 (t + n)) (by simp))
      generalize (w2.drewN (jj + 1)).setCell ⟨g, 18, none⟩ (.int .i64 (t + n)) = w5 at *
      go_wp2_with fail
      go_ret
      have e9 : t + n = t2 := by have := HT2.out; simpa using this
      exact T.out.fin hgg rfl (by rw [← e9]; exact HM3.out) HO3.out
end Go.Proofs.Ytpcocfdgcihpdaa.rdw
