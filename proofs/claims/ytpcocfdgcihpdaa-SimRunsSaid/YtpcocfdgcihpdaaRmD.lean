/-
  caraferef20: do, operation by operation
-/
import Derived.Test.YtpcocfdgcihpdaaRmJ
set_option maxHeartbeats 64000000
set_option maxRecDepth 1000000
set_option linter.unusedVariables false
set_option linter.unusedSimpArgs false
namespace Go.Proofs.Ytpcocfdgcihpdaa.rdw
open Go Go.RowKit Go.BigFrame
open Go.Proofs.Ytpcocfdgcihpdaa Go.Proofs.Ytpcocfdgcihpdaa.wr Go.Proofs.Ytpcocfdgcihpdaa.x86enc
set_option linter.unusedVariables false
set_option linter.unusedSimpArgs false
theorem do33_18 (g gw : Nat) (cv kv : Value) (m : Mach) (l : Int) (a b : Nat) (n : Int) (k : Ok33 g gw m a b n) (w : World) (h : NMem w g cv (wsl gw m.W.length) kv m l) (hw : WMem w gw m.W) : DoC g gw cv kv m l 18 18 a b n w := by
  obtain ⟨hR, ha, hb, hn, hat, hl, hgg⟩ := k
  have S := Lib.hid (St.start (op := 18) (a := a) (b := b) (n := n) h hw)
  clear h hw
  unfold DoC
  obtain ⟨ha', hb', e1, e2⟩ := ab_facts hR ha hb
  have HR := Lib.hid hR; clear hR
  have e5 : IntKind.i64.wrap n = n := by unfold I32 at hn; rw [IntKind.wrap_i64]; omega
  have e6 : IntKind.i64.wrap (m.at_ + n) = m.at_ + n := by unfold I32 at hn; rw [IntKind.wrap_i64]; omega
  obtain ⟨t, ht⟩ : ∃ t, m.at_ = t := ⟨_, rfl⟩
  rw [ht] at e6
  have HT := Lib.hid ht; clear ht hat
  obtain ⟨go, hgo⟩ : ∃ go, goes m 18 = go := ⟨_, rfl⟩
  obtain ⟨t2, ht2⟩ : ∃ t2, (if go = true then t + n else t) = t2 := ⟨_, rfl⟩
  have hx : exA m 18 a b n = ({ m with at_ := t2 }, 1) := by rw [← ht2, ← hgo, ← HT.out]; rfl
  have HT2 := Lib.hid ht2; clear ht2
  rw [hx]
  have HX := Lib.hid hx; clear hx
  have HGO := Lib.hid hgo; clear hgo
  go_enter Try.func33, Try.ntmps33
  go_upto_region 1 with fail
  generalize w.alloc (.cells #[.int .i64 18, .int .i64 (a : Int), .int .i64 (b : Int), .int .i32 n] 63) = w1 at *
  obtain ⟨B, hB⟩ : ∃ B, w.heap.size = B := ⟨_, rfl⟩
  rw [hB] at S ⊢
  clear hB
  obtain ⟨b0, b1, b2, b3, ca, cb, ck⟩ := S.out.cells ha hb
  go_quiet (fail)
  generalize nq = n1 at *
  go_wp2_with fail
  go_quiet (fail)
  generalize nq = n2 at *
  go_upto_region 54 with fail
  have T := Lib.hid (S.out.drewN (n1 + n2))
  clear b0 b1 b2 b3 ca cb ck S
  generalize w1.drewN (n1 + n2) = w2 at *
  obtain ⟨b0, b1, b2, b3, ca, cb, ck⟩ := T.out.cells ha hb
  have fa := T.out.h.froz (1 + a)
  have g18 := T.out.h.cell 18 rfl
  have f18 := T.out.h.froz 18
  rw [HT.out] at g18
  have j49 := jumps49_18 g cv _ kv m l _ T.out.h
  rw [HGO.out] at j49
  have J := Lib.hid j49; clear j49
  clear ca fa
  cases go
  · go_wp2_with (go_at_call 49; with_reducible refine J.out.mono ?_; rintro e w9 ⟨rfl, jj, rfl⟩)
    go_ret
    have e9 : t2 = m.at_ := by have := HT2.out; rw [HT.out]; simpa using this.symm
    exact T.out.fin hgg rfl (by rw [e9]; exact ⟨T.out.h.h⟩) (only_drewN _ _ _)
  · go_wp2_with (go_at_call 49; with_reducible refine J.out.mono ?_; rintro e w9 ⟨rfl, jj, rfl⟩)
    go_region
    have HM3 := Lib.hid ((show NMem (w2.drewN (jj + 1)) g cv (wsl gw m.W.length) kv m l from ⟨T.out.h.h⟩).set 18 (.int .i64 (t + n)) (m' := { m with at_ := t + n }) (l' := l) rfl)
    have HO3 := Lib.hid ((only_drewN [g] w2 (jj + 1)).set (g := g) (j := 18) (.int .i64 (t + n)) (by simp))
    generalize (w2.drewN (jj + 1)).setCell ⟨g, 18, none⟩ (.int .i64 (t + n)) = w5 at *
    go_wp2_with fail
    go_ret
    have e9 : t + n = t2 := by have := HT2.out; simpa using this
    exact T.out.fin hgg rfl (by rw [← e9]; exact HM3.out) HO3.out
theorem do33_19 (g gw : Nat) (cv kv : Value) (m : Mach) (l : Int) (a b : Nat) (n : Int) (k : Ok33 g gw m a b n) (w : World) (h : NMem w g cv (wsl gw m.W.length) kv m l) (hw : WMem w gw m.W) : DoC g gw cv kv m l 19 19 a b n w := by
  obtain ⟨hR, ha, hb, hn, hat, hl, hgg⟩ := k
  have S := Lib.hid (St.start (op := 19) (a := a) (b := b) (n := n) h hw)
  clear h hw
  unfold DoC
  obtain ⟨ha', hb', e1, e2⟩ := ab_facts hR ha hb
  have HR := Lib.hid hR; clear hR
  have e5 : IntKind.i64.wrap n = n := by unfold I32 at hn; rw [IntKind.wrap_i64]; omega
  have e6 : IntKind.i64.wrap (m.at_ + n) = m.at_ + n := by unfold I32 at hn; rw [IntKind.wrap_i64]; omega
  obtain ⟨t, ht⟩ : ∃ t, m.at_ = t := ⟨_, rfl⟩
  rw [ht] at e6
  have HT := Lib.hid ht; clear ht hat
  obtain ⟨go, hgo⟩ : ∃ go, goes m 19 = go := ⟨_, rfl⟩
  obtain ⟨t2, ht2⟩ : ∃ t2, (if go = true then t + n else t) = t2 := ⟨_, rfl⟩
  have hx : exA m 19 a b n = ({ m with at_ := t2 }, 1) := by rw [← ht2, ← hgo, ← HT.out]; rfl
  have HT2 := Lib.hid ht2; clear ht2
  rw [hx]
  have HX := Lib.hid hx; clear hx
  have HGO := Lib.hid hgo; clear hgo
  go_enter Try.func33, Try.ntmps33
  go_upto_region 1 with fail
  generalize w.alloc (.cells #[.int .i64 19, .int .i64 (a : Int), .int .i64 (b : Int), .int .i32 n] 63) = w1 at *
  obtain ⟨B, hB⟩ : ∃ B, w.heap.size = B := ⟨_, rfl⟩
  rw [hB] at S ⊢
  clear hB
  obtain ⟨b0, b1, b2, b3, ca, cb, ck⟩ := S.out.cells ha hb
  go_quiet (fail)
  generalize nq = n1 at *
  go_wp2_with fail
  go_quiet (fail)
  generalize nq = n2 at *
  go_upto_region 54 with fail
  have T := Lib.hid (S.out.drewN (n1 + n2))
  clear b0 b1 b2 b3 ca cb ck S
  generalize w1.drewN (n1 + n2) = w2 at *
  obtain ⟨b0, b1, b2, b3, ca, cb, ck⟩ := T.out.cells ha hb
  have fa := T.out.h.froz (1 + a)
  have g18 := T.out.h.cell 18 rfl
  have f18 := T.out.h.froz 18
  rw [HT.out] at g18
  have j49 := jumps49_19 g cv _ kv m l _ T.out.h
  rw [HGO.out] at j49
  have J := Lib.hid j49; clear j49
  clear ca fa
  cases go
  · go_wp2_with (go_at_call 49; with_reducible refine J.out.mono ?_; rintro e w9 ⟨rfl, jj, rfl⟩)
    go_ret
    have e9 : t2 = m.at_ := by have := HT2.out; rw [HT.out]; simpa using this.symm
    exact T.out.fin hgg rfl (by rw [e9]; exact ⟨T.out.h.h⟩) (only_drewN _ _ _)
  · go_wp2_with (go_at_call 49; with_reducible refine J.out.mono ?_; rintro e w9 ⟨rfl, jj, rfl⟩)
    go_region
    have HM3 := Lib.hid ((show NMem (w2.drewN (jj + 1)) g cv (wsl gw m.W.length) kv m l from ⟨T.out.h.h⟩).set 18 (.int .i64 (t + n)) (m' := { m with at_ := t + n }) (l' := l) rfl)
    have HO3 := Lib.hid ((only_drewN [g] w2 (jj + 1)).set (g := g) (j := 18) (.int .i64 (t + n)) (by simp))
    generalize (w2.drewN (jj + 1)).setCell ⟨g, 18, none⟩ (.int .i64 (t + n)) = w5 at *
    go_wp2_with fail
    go_ret
    have e9 : t + n = t2 := by have := HT2.out; simpa using this
    exact T.out.fin hgg rfl (by rw [← e9]; exact HM3.out) HO3.out
theorem do33_20 (g gw : Nat) (cv kv : Value) (m : Mach) (l : Int) (a b : Nat) (n : Int) (k : Ok33 g gw m a b n) (w : World) (h : NMem w g cv (wsl gw m.W.length) kv m l) (hw : WMem w gw m.W) : DoC g gw cv kv m l 20 20 a b n w := by
  obtain ⟨hR, ha, hb, hn, hat, hl, hgg⟩ := k
  have S := Lib.hid (St.start (op := 20) (a := a) (b := b) (n := n) h hw)
  clear h hw
  unfold DoC
  obtain ⟨ha', hb', e1, e2⟩ := ab_facts hR ha hb
  have HR := Lib.hid hR; clear hR
  have e5 : IntKind.i64.wrap n = n := by unfold I32 at hn; rw [IntKind.wrap_i64]; omega
  have e6 : IntKind.i64.wrap (m.at_ + n) = m.at_ + n := by unfold I32 at hn; rw [IntKind.wrap_i64]; omega
  obtain ⟨t, ht⟩ : ∃ t, m.at_ = t := ⟨_, rfl⟩
  rw [ht] at e6
  have HT := Lib.hid ht; clear ht hat
  obtain ⟨go, hgo⟩ : ∃ go, goes m 20 = go := ⟨_, rfl⟩
  obtain ⟨t2, ht2⟩ : ∃ t2, (if go = true then t + n else t) = t2 := ⟨_, rfl⟩
  have hx : exA m 20 a b n = ({ m with at_ := t2 }, 1) := by rw [← ht2, ← hgo, ← HT.out]; rfl
  have HT2 := Lib.hid ht2; clear ht2
  rw [hx]
  have HX := Lib.hid hx; clear hx
  have HGO := Lib.hid hgo; clear hgo
  go_enter Try.func33, Try.ntmps33
  go_upto_region 1 with fail
  generalize w.alloc (.cells #[.int .i64 20, .int .i64 (a : Int), .int .i64 (b : Int), .int .i32 n] 63) = w1 at *
  obtain ⟨B, hB⟩ : ∃ B, w.heap.size = B := ⟨_, rfl⟩
  rw [hB] at S ⊢
  clear hB
  obtain ⟨b0, b1, b2, b3, ca, cb, ck⟩ := S.out.cells ha hb
  go_quiet (fail)
  generalize nq = n1 at *
  go_wp2_with fail
  go_quiet (fail)
  generalize nq = n2 at *
  go_upto_region 54 with fail
  have T := Lib.hid (S.out.drewN (n1 + n2))
  clear b0 b1 b2 b3 ca cb ck S
  generalize w1.drewN (n1 + n2) = w2 at *
  obtain ⟨b0, b1, b2, b3, ca, cb, ck⟩ := T.out.cells ha hb
  have fa := T.out.h.froz (1 + a)
  have g18 := T.out.h.cell 18 rfl
  have f18 := T.out.h.froz 18
  rw [HT.out] at g18
  have j49 := jumps49_20 g cv _ kv m l _ T.out.h
  rw [HGO.out] at j49
  have J := Lib.hid j49; clear j49
  clear ca fa
  cases go
  · go_wp2_with (go_at_call 49; with_reducible refine J.out.mono ?_; rintro e w9 ⟨rfl, jj, rfl⟩)
    go_ret
    have e9 : t2 = m.at_ := by have := HT2.out; rw [HT.out]; simpa using this.symm
    exact T.out.fin hgg rfl (by rw [e9]; exact ⟨T.out.h.h⟩) (only_drewN _ _ _)
  · go_wp2_with (go_at_call 49; with_reducible refine J.out.mono ?_; rintro e w9 ⟨rfl, jj, rfl⟩)
    go_region
    have HM3 := Lib.hid ((show NMem (w2.drewN (jj + 1)) g cv (wsl gw m.W.length) kv m l from ⟨T.out.h.h⟩).set 18 (.int .i64 (t + n)) (m' := { m with at_ := t + n }) (l' := l) rfl)
    have HO3 := Lib.hid ((only_drewN [g] w2 (jj + 1)).set (g := g) (j := 18) (.int .i64 (t + n)) (by simp))
    generalize (w2.drewN (jj + 1)).setCell ⟨g, 18, none⟩ (.int .i64 (t + n)) = w5 at *
    go_wp2_with fail
    go_ret
    have e9 : t + n = t2 := by have := HT2.out; simpa using this
    exact T.out.fin hgg rfl (by rw [← e9]; exact HM3.out) HO3.out
theorem do33_21 (g gw : Nat) (cv kv : Value) (m : Mach) (l : Int) (a b : Nat) (n : Int) (k : Ok33 g gw m a b n) (w : World) (h : NMem w g cv (wsl gw m.W.length) kv m l) (hw : WMem w gw m.W) : DoC g gw cv kv m l 21 21 a b n w := by
  obtain ⟨hR, ha, hb, hn, hat, hl, hgg⟩ := k
  have S := Lib.hid (St.start (op := 21) (a := a) (b := b) (n := n) h hw)
  clear h hw
  unfold DoC
  obtain ⟨ha', hb', e1, e2⟩ := ab_facts hR ha hb
  have HR := Lib.hid hR; clear hR
  have e5 : IntKind.i64.wrap n = n := by unfold I32 at hn; rw [IntKind.wrap_i64]; omega
  have e6 : IntKind.i64.wrap (m.at_ + n) = m.at_ + n := by unfold I32 at hn; rw [IntKind.wrap_i64]; omega
  obtain ⟨t, ht⟩ : ∃ t, m.at_ = t := ⟨_, rfl⟩
  rw [ht] at e6
  have HT := Lib.hid ht; clear ht hat
  obtain ⟨go, hgo⟩ : ∃ go, goes m 21 = go := ⟨_, rfl⟩
  obtain ⟨t2, ht2⟩ : ∃ t2, (if go = true then t + n else t) = t2 := ⟨_, rfl⟩
  have hx : exA m 21 a b n = ({ m with at_ := t2 }, 1) := by rw [← ht2, ← hgo, ← HT.out]; rfl
  have HT2 := Lib.hid ht2; clear ht2
  rw [hx]
  have HX := Lib.hid hx; clear hx
  have HGO := Lib.hid hgo; clear hgo
  go_enter Try.func33, Try.ntmps33
  go_upto_region 1 with fail
  generalize w.alloc (.cells #[.int .i64 21, .int .i64 (a : Int), .int .i64 (b : Int), .int .i32 n] 63) = w1 at *
  obtain ⟨B, hB⟩ : ∃ B, w.heap.size = B := ⟨_, rfl⟩
  rw [hB] at S ⊢
  clear hB
  obtain ⟨b0, b1, b2, b3, ca, cb, ck⟩ := S.out.cells ha hb
  go_quiet (fail)
  generalize nq = n1 at *
  go_wp2_with fail
  go_quiet (fail)
  generalize nq = n2 at *
  go_upto_region 54 with fail
  have T := Lib.hid (S.out.drewN (n1 + n2))
  clear b0 b1 b2 b3 ca cb ck S
  generalize w1.drewN (n1 + n2) = w2 at *
  obtain ⟨b0, b1, b2, b3, ca, cb, ck⟩ := T.out.cells ha hb
  have fa := T.out.h.froz (1 + a)
  have g18 := T.out.h.cell 18 rfl
  have f18 := T.out.h.froz 18
  rw [HT.out] at g18
  have j49 := jumps49_21 g cv _ kv m l _ T.out.h
  rw [HGO.out] at j49
  have J := Lib.hid j49; clear j49
  clear ca fa
  cases go
  · go_wp2_with (go_at_call 49; with_reducible refine J.out.mono ?_; rintro e w9 ⟨rfl, jj, rfl⟩)
    go_ret
    have e9 : t2 = m.at_ := by have := HT2.out; rw [HT.out]; simpa using this.symm
    exact T.out.fin hgg rfl (by rw [e9]; exact ⟨T.out.h.h⟩) (only_drewN _ _ _)
  · go_wp2_with (go_at_call 49; with_reducible refine J.out.mono ?_; rintro e w9 ⟨rfl, jj, rfl⟩)
    go_region
    have HM3 := Lib.hid ((show NMem (w2.drewN (jj + 1)) g cv (wsl gw m.W.length) kv m l from ⟨T.out.h.h⟩).set 18 (.int .i64 (t + n)) (m' := { m with at_ := t + n }) (l' := l) rfl)
    have HO3 := Lib.hid ((only_drewN [g] w2 (jj + 1)).set (g := g) (j := 18) (.int .i64 (t + n)) (by simp))
    generalize (w2.drewN (jj + 1)).setCell ⟨g, 18, none⟩ (.int .i64 (t + n)) = w5 at *
    go_wp2_with fail
    go_ret
    have e9 : t + n = t2 := by have := HT2.out; simpa using this
    exact T.out.fin hgg rfl (by rw [← e9]; exact HM3.out) HO3.out
theorem do33_22 (g gw : Nat) (cv kv : Value) (m : Mach) (l : Int) (a b : Nat) (n : Int) (k : Ok33 g gw m a b n) (w : World) (h : NMem w g cv (wsl gw m.W.length) kv m l) (hw : WMem w gw m.W) : DoC g gw cv kv m l 22 22 a b n w := by
  obtain ⟨hR, ha, hb, hn, hat, hl, hgg⟩ := k
  have S := Lib.hid (St.start (op := 22) (a := a) (b := b) (n := n) h hw)
  clear h hw
  unfold DoC
  obtain ⟨ha', hb', e1, e2⟩ := ab_facts hR ha hb
  have HR := Lib.hid hR; clear hR
  have e5 : IntKind.i64.wrap n = n := by unfold I32 at hn; rw [IntKind.wrap_i64]; omega
  have e6 : IntKind.i64.wrap (m.at_ + n) = m.at_ + n := by unfold I32 at hn; rw [IntKind.wrap_i64]; omega
  obtain ⟨t, ht⟩ : ∃ t, m.at_ = t := ⟨_, rfl⟩
  rw [ht] at e6
  have HT := Lib.hid ht; clear ht hat
  obtain ⟨go, hgo⟩ : ∃ go, goes m 22 = go := ⟨_, rfl⟩
  obtain ⟨t2, ht2⟩ : ∃ t2, (if go = true then t + n else t) = t2 := ⟨_, rfl⟩
  have hx : exA m 22 a b n = ({ m with at_ := t2 }, 1) := by rw [← ht2, ← hgo, ← HT.out]; rfl
  have HT2 := Lib.hid ht2; clear ht2
  rw [hx]
  have HX := Lib.hid hx; clear hx
  have HGO := Lib.hid hgo; clear hgo
  go_enter Try.func33, Try.ntmps33
  go_upto_region 1 with fail
  generalize w.alloc (.cells #[.int .i64 22, .int .i64 (a : Int), .int .i64 (b : Int), .int .i32 n] 63) = w1 at *
  obtain ⟨B, hB⟩ : ∃ B, w.heap.size = B := ⟨_, rfl⟩
  rw [hB] at S ⊢
  clear hB
  obtain ⟨b0, b1, b2, b3, ca, cb, ck⟩ := S.out.cells ha hb
  go_quiet (fail)
  generalize nq = n1 at *
  go_wp2_with fail
  go_quiet (fail)
  generalize nq = n2 at *
  go_upto_region 54 with fail
  have T := Lib.hid (S.out.drewN (n1 + n2))
  clear b0 b1 b2 b3 ca cb ck S
  generalize w1.drewN (n1 + n2) = w2 at *
  obtain ⟨b0, b1, b2, b3, ca, cb, ck⟩ := T.out.cells ha hb
  have fa := T.out.h.froz (1 + a)
  have g18 := T.out.h.cell 18 rfl
  have f18 := T.out.h.froz 18
  rw [HT.out] at g18
  have j49 := jumps49_22 g cv _ kv m l _ T.out.h
  rw [HGO.out] at j49
  have J := Lib.hid j49; clear j49
  clear ca fa
  cases go
  · go_wp2_with (go_at_call 49; with_reducible refine J.out.mono ?_; rintro e w9 ⟨rfl, jj, rfl⟩)
    go_ret
    have e9 : t2 = m.at_ := by have := HT2.out; rw [HT.out]; simpa using this.symm
    exact T.out.fin hgg rfl (by rw [e9]; exact ⟨T.out.h.h⟩) (only_drewN _ _ _)
  · go_wp2_with (go_at_call 49; with_reducible refine J.out.mono ?_; rintro e w9 ⟨rfl, jj, rfl⟩)
    go_region
    have HM3 := Lib.hid ((show NMem (w2.drewN (jj + 1)) g cv (wsl gw m.W.length) kv m l from ⟨T.out.h.h⟩).set 18 (.int .i64 (t + n)) (m' := { m with at_ := t + n }) (l' := l) rfl)
    have HO3 := Lib.hid ((only_drewN [g] w2 (jj + 1)).set (g := g) (j := 18) (.int .i64 (t + n)) (by simp))
    generalize (w2.drewN (jj + 1)).setCell ⟨g, 18, none⟩ (.int .i64 (t + n)) = w5 at *
    go_wp2_with fail
    go_ret
    have e9 : t + n = t2 := by have := HT2.out; simpa using this
    exact T.out.fin hgg rfl (by rw [← e9]; exact HM3.out) HO3.out
theorem do33_23 (g gw : Nat) (cv kv : Value) (m : Mach) (l : Int) (a b : Nat) (n : Int) (k : Ok33 g gw m a b n) (w : World) (h : NMem w g cv (wsl gw m.W.length) kv m l) (hw : WMem w gw m.W) : DoC g gw cv kv m l 23 23 a b n w := by
  obtain ⟨hR, ha, hb, hn, hat, hl, hgg⟩ := k
  have S := Lib.hid (St.start (op := 23) (a := a) (b := b) (n := n) h hw)
  clear h hw
  unfold DoC
  obtain ⟨ha', hb', e1, e2⟩ := ab_facts hR ha hb
  have HR := Lib.hid hR; clear hR
  have e5 : IntKind.i64.wrap n = n := by unfold I32 at hn; rw [IntKind.wrap_i64]; omega
  have e6 : IntKind.i64.wrap (m.at_ + n) = m.at_ + n := by unfold I32 at hn; rw [IntKind.wrap_i64]; omega
  obtain ⟨t, ht⟩ : ∃ t, m.at_ = t := ⟨_, rfl⟩
  rw [ht] at e6
  have HT := Lib.hid ht; clear ht hat
  obtain ⟨go, hgo⟩ : ∃ go, goes m 23 = go := ⟨_, rfl⟩
  obtain ⟨t2, ht2⟩ : ∃ t2, (if go = true then t + n else t) = t2 := ⟨_, rfl⟩
  have hx : exA m 23 a b n = ({ m with at_ := t2 }, 1) := by rw [← ht2, ← hgo, ← HT.out]; rfl
  have HT2 := Lib.hid ht2; clear ht2
  rw [hx]
  have HX := Lib.hid hx; clear hx
  have HGO := Lib.hid hgo; clear hgo
  go_enter Try.func33, Try.ntmps33
  go_upto_region 1 with fail
  generalize w.alloc (.cells #[.int .i64 23, .int .i64 (a : Int), .int .i64 (b : Int), .int .i32 n] 63) = w1 at *
  obtain ⟨B, hB⟩ : ∃ B, w.heap.size = B := ⟨_, rfl⟩
  rw [hB] at S ⊢
  clear hB
  obtain ⟨b0, b1, b2, b3, ca, cb, ck⟩ := S.out.cells ha hb
  go_quiet (fail)
  generalize nq = n1 at *
  go_wp2_with fail
  go_quiet (fail)
  generalize nq = n2 at *
  go_upto_region 54 with fail
  have T := Lib.hid (S.out.drewN (n1 + n2))
  clear b0 b1 b2 b3 ca cb ck S
  generalize w1.drewN (n1 + n2) = w2 at *
  obtain ⟨b0, b1, b2, b3, ca, cb, ck⟩ := T.out.cells ha hb
  have fa := T.out.h.froz (1 + a)
  have g18 := T.out.h.cell 18 rfl
  have f18 := T.out.h.froz 18
  rw [HT.out] at g18
  have j49 := jumps49_23 g cv _ kv m l _ T.out.h
  rw [HGO.out] at j49
  have J := Lib.hid j49; clear j49
  clear ca fa
  cases go
  · go_wp2_with (go_at_call 49; with_reducible refine J.out.mono ?_; rintro e w9 ⟨rfl, jj, rfl⟩)
    go_ret
    have e9 : t2 = m.at_ := by have := HT2.out; rw [HT.out]; simpa using this.symm
    exact T.out.fin hgg rfl (by rw [e9]; exact ⟨T.out.h.h⟩) (only_drewN _ _ _)
  · go_wp2_with (go_at_call 49; with_reducible refine J.out.mono ?_; rintro e w9 ⟨rfl, jj, rfl⟩)
    go_region
    have HM3 := Lib.hid ((show NMem (w2.drewN (jj + 1)) g cv (wsl gw m.W.length) kv m l from ⟨T.out.h.h⟩).set 18 (.int .i64 (t + n)) (m' := { m with at_ := t + n }) (l' := l) rfl)
    have HO3 := Lib.hid ((only_drewN [g] w2 (jj + 1)).set (g := g) (j := 18) (.int .i64 (t + n)) (by simp))
    generalize (w2.drewN (jj + 1)).setCell ⟨g, 18, none⟩ (.int .i64 (t + n)) = w5 at *
    go_wp2_with fail
    go_ret
    have e9 : t + n = t2 := by have := HT2.out; simpa using this
    exact T.out.fin hgg rfl (by rw [← e9]; exact HM3.out) HO3.out
theorem do33_24 (g gw : Nat) (cv kv : Value) (m : Mach) (l : Int) (a b : Nat) (n : Int) (k : Ok33 g gw m a b n) (w : World) (h : NMem w g cv (wsl gw m.W.length) kv m l) (hw : WMem w gw m.W) : DoC g gw cv kv m l 24 24 a b n w := by
  obtain ⟨hR, ha, hb, hn, hat, hl, hgg⟩ := k
  have S := Lib.hid (St.start (op := 24) (a := a) (b := b) (n := n) h hw)
  clear h hw
  unfold DoC
  obtain ⟨ha', hb', e1, e2⟩ := ab_facts hR ha hb
  have HR := Lib.hid hR; clear hR
  have e5 : IntKind.i64.wrap n = n := by unfold I32 at hn; rw [IntKind.wrap_i64]; omega
  have e6 : IntKind.i64.wrap (m.at_ + n) = m.at_ + n := by unfold I32 at hn; rw [IntKind.wrap_i64]; omega
  obtain ⟨t, ht⟩ : ∃ t, m.at_ = t := ⟨_, rfl⟩
  rw [ht] at e6
  have HT := Lib.hid ht; clear ht hat
  obtain ⟨go, hgo⟩ : ∃ go, goes m 24 = go := ⟨_, rfl⟩
  obtain ⟨t2, ht2⟩ : ∃ t2, (if go = true then t + n else t) = t2 := ⟨_, rfl⟩
  have hx : exA m 24 a b n = ({ m with at_ := t2 }, 1) := by rw [← ht2, ← hgo, ← HT.out]; rfl
  have HT2 := Lib.hid ht2; clear ht2
  rw [hx]
  have HX := Lib.hid hx; clear hx
  have HGO := Lib.hid hgo; clear hgo
  go_enter Try.func33, Try.ntmps33
  go_upto_region 1 with fail
  generalize w.alloc (.cells #[.int .i64 24, .int .i64 (a : Int), .int .i64 (b : Int), .int .i32 n] 63) = w1 at *
  obtain ⟨B, hB⟩ : ∃ B, w.heap.size = B := ⟨_, rfl⟩
  rw [hB] at S ⊢
  clear hB
  obtain ⟨b0, b1, b2, b3, ca, cb, ck⟩ := S.out.cells ha hb
  go_quiet (fail)
  generalize nq = n1 at *
  go_wp2_with fail
  go_quiet (fail)
  generalize nq = n2 at *
  go_upto_region 54 with fail
  have T := Lib.hid (S.out.drewN (n1 + n2))
  clear b0 b1 b2 b3 ca cb ck S
  generalize w1.drewN (n1 + n2) = w2 at *
  obtain ⟨b0, b1, b2, b3, ca, cb, ck⟩ := T.out.cells ha hb
  have fa := T.out.h.froz (1 + a)
  have g18 := T.out.h.cell 18 rfl
  have f18 := T.out.h.froz 18
  rw [HT.out] at g18
  have j49 := jumps49_24 g cv _ kv m l _ T.out.h
  rw [HGO.out] at j49
  have J := Lib.hid j49; clear j49
  clear ca fa
  cases go
  · go_wp2_with (go_at_call 49; with_reducible refine J.out.mono ?_; rintro e w9 ⟨rfl, jj, rfl⟩)
    go_ret
    have e9 : t2 = m.at_ := by have := HT2.out; rw [HT.out]; simpa using this.symm
    exact T.out.fin hgg rfl (by rw [e9]; exact ⟨T.out.h.h⟩) (only_drewN _ _ _)
  · go_wp2_with (go_at_call 49; with_reducible refine J.out.mono ?_; rintro e w9 ⟨rfl, jj, rfl⟩)
    go_region
    have HM3 := Lib.hid ((show NMem (w2.drewN (jj + 1)) g cv (wsl gw m.W.length) kv m l from ⟨T.out.h.h⟩).set 18 (.int .i64 (t + n)) (m' := { m with at_ := t + n }) (l' := l) rfl)
    have HO3 := Lib.hid ((only_drewN [g] w2 (jj + 1)).set (g := g) (j := 18) (.int .i64 (t + n)) (by simp))
    generalize (w2.drewN (jj + 1)).setCell ⟨g, 18, none⟩ (.int .i64 (t + n)) = w5 at *
    go_wp2_with fail
    go_ret
    have e9 : t + n = t2 := by have := HT2.out; simpa using this
    exact T.out.fin hgg rfl (by rw [← e9]; exact HM3.out) HO3.out
theorem do33_25 (g gw : Nat) (cv kv : Value) (m : Mach) (l : Int) (a b : Nat) (n : Int) (k : Ok33 g gw m a b n) (w : World) (h : NMem w g cv (wsl gw m.W.length) kv m l) (hw : WMem w gw m.W) : DoC g gw cv kv m l 25 25 a b n w := by
  obtain ⟨hR, ha, hb, hn, hat, hl, hgg⟩ := k
  have S := Lib.hid (St.start (op := 25) (a := a) (b := b) (n := n) h hw)
  clear h hw
  unfold DoC
  obtain ⟨ha', hb', e1, e2⟩ := ab_facts hR ha hb
  have HR := Lib.hid hR; clear hR
  have J : Hid (∀ w9 : World, Calls Try.prog 49 #[ptr g, .int .i64 25] w9 fun e w' => e = .returned (.bool false) ∧ w' = w9) := Lib.hid fun w9 => jumps49_no 25 (by omega) (by omega) (by omega) g m w9
  go_enter Try.func33, Try.ntmps33
  go_upto_region 1 with fail
  generalize w.alloc (.cells #[.int .i64 25, .int .i64 (a : Int), .int .i64 (b : Int), .int .i32 n] 63) = w1 at *
  obtain ⟨B, hB⟩ : ∃ B, w.heap.size = B := ⟨_, rfl⟩
  rw [hB] at S ⊢
  clear hB
  obtain ⟨b0, b1, b2, b3, ca, cb, ck⟩ := S.out.cells ha hb
  go_quiet (fail)
  generalize nq = n1 at *
  go_wp2_with fail
  go_quiet (fail)
  generalize nq = n2 at *
  go_upto_region 50 with fail
  have T := Lib.hid (S.out.drewN (n1 + n2))
  clear b0 b1 b2 b3 ca cb ck S
  generalize w1.drewN (n1 + n2) = w2 at *
  obtain ⟨b0, b1, b2, b3, ca, cb, ck⟩ := T.out.cells ha hb
  have fa := T.out.h.froz (1 + a)
  go_wp2_with fail
  go_ret
  exact T.out.fin hgg rfl T.out.h (Only.refl _ _)
theorem do33_26 (g gw : Nat) (cv kv : Value) (m : Mach) (l : Int) (a b : Nat) (n : Int) (k : Ok33 g gw m a b n) (w : World) (h : NMem w g cv (wsl gw m.W.length) kv m l) (hw : WMem w gw m.W) : DoC g gw cv kv m l 26 26 a b n w := by
  obtain ⟨hR, ha, hb, hn, hat, hl, hgg⟩ := k
  have S := Lib.hid (St.start (op := 26) (a := a) (b := b) (n := n) h hw)
  clear h hw
  unfold DoC
  obtain ⟨ha', hb', e1, e2⟩ := ab_facts hR ha hb
  have HR := Lib.hid hR; clear hR
  have e5 : IntKind.i64.wrap n = n := by unfold I32 at hn; rw [IntKind.wrap_i64]; omega
  have J : Hid (∀ w9 : World, Calls Try.prog 49 #[ptr g, .int .i64 26] w9 fun e w' => e = .returned (.bool false) ∧ w' = w9) := Lib.hid fun w9 => jumps49_no 26 (by omega) (by omega) (by omega) g m w9
  go_enter Try.func33, Try.ntmps33
  go_upto_region 1 with fail
  generalize w.alloc (.cells #[.int .i64 26, .int .i64 (a : Int), .int .i64 (b : Int), .int .i32 n] 63) = w1 at *
  obtain ⟨B, hB⟩ : ∃ B, w.heap.size = B := ⟨_, rfl⟩
  rw [hB] at S ⊢
  clear hB
  obtain ⟨b0, b1, b2, b3, ca, cb, ck⟩ := S.out.cells ha hb
  go_quiet (fail)
  generalize nq = n1 at *
  go_wp2_with fail
  go_quiet (fail)
  generalize nq = n2 at *
  go_upto_region 52 with fail
  have T := Lib.hid (S.out.drewN (n1 + n2))
  clear b0 b1 b2 b3 ca cb ck S
  generalize w1.drewN (n1 + n2) = w2 at *
  obtain ⟨b0, b1, b2, b3, ca, cb, ck⟩ := T.out.cells ha hb
  have fa := T.out.h.froz (1 + a)
  have g21 := T.out.h.cell 22 rfl
  have f21 := T.out.h.froz 22
  go_wp2_with fail
  go_ret
  exact T.out.fin hgg rfl (T.out.h.set 22 (.int .i64 n) (m' := { m with N := n }) (l' := l) rfl) ((Only.refl _ _).set _ (by simp))
end Go.Proofs.Ytpcocfdgcihpdaa.rdw
