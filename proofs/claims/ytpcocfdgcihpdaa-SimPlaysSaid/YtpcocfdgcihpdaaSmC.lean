/-
  carafelaw20: instructions, their bytes; slices.Clone.
-/
import Derived.Test.YtpcocfdgcihpdaaSmKit
import Derived.Test.YtpcocfdgcihpdaaSmKnown
import Derived.WalkSpells
set_option maxHeartbeats 64000000
set_option maxRecDepth 1000000
set_option linter.unusedVariables false
set_option linter.unusedSimpArgs false
namespace Go.Proofs.Ytpcocfdgcihpdaa.rdw
open Go Go.RowKit Go.BigFrame
open Go.Proofs.Ytpcocfdgcihpdaa Go.Proofs.Ytpcocfdgcihpdaa.wr Go.Proofs.Ytpcocfdgcihpdaa.x86enc
set_option linter.unusedVariables false
set_option linter.unusedSimpArgs false
theorem clone26 (bs : List Int) (B : Nat) (v : Value) (w : World) (hB : B ≤ w.heap.size) (h : w.ownsRow B 5 1 v bs.length (u8s bs)) (hne : bs ≠ []) (hlen : bs.length ≤ 100000) :
    Calls Try.prog 26 #[v] w fun e w' => ∃ v', e = .returned v' ∧ w'.ownsRow w.heap.size 5 1 v' bs.length (u8s bs) ∧ Below w.heap.size w w' := by
  obtain ⟨i0, hi, hz0, hz1, hz2⟩ := info_parts info5
  obtain ⟨g, cap, rfl, q1, q2, q3⟩ := own_row (n := 0) h hne
  have Q3 := Lib.hid q3; clear q3
  have he27 := fun w : World => Lib.run_eql_slice_nil (P := Try.prog) w 27 5 (some ⟨g, 0, none⟩) bs.length cap 0 0 Try.underlying27
  go_enter Try.func26, Try.ntmps26
  go_wp2_with (at_builtin; refine wpList_append_own _ rfl _ _ 27 rfl w.heap.size 5 i0 (.int .u8 0) 1 1 Try.underlying27 hi hz0 hz1 hz2 rfl (by decide) _ _ _ rfl (own_empty w w.heap.size (Nat.le_refl _)) ⟨g, 0, none⟩ _ cap (u8s bs) rfl (by simp [u8s]) (src_bytes (fun j hj => (((Below.refl w.heap.size w).alloc (Nat.le_refl _) _).cell Q3.out.1).trans (Q3.out.2 j hj))) (one_u8s bs) (by unfold maxLen; omega) (by omega) (by simp) ?_; intro v3 w3 hv3 hgrow3 _; have hb3 : Below w.heap.size w w3 := ((Below.refl w.heap.size w).alloc (Nat.le_refl _) _).grown hgrow3 (by simp) (fun j hj => by cases hj; simp); clear hgrow3)
  go_ret
  exact ⟨v3, rfl, by simpa using hv3, hb3⟩
end Go.Proofs.Ytpcocfdgcihpdaa.rdw
namespace Go.Proofs.Ytpcocfdgcihpdaa.rdw
open Go Go.RowKit Go.BigFrame
open Go.Proofs.Ytpcocfdgcihpdaa Go.Proofs.Ytpcocfdgcihpdaa.wr Go.Proofs.Ytpcocfdgcihpdaa.x86enc
structure Mach where
  R : Nat → Int
  W : List Int
  at_ : Int
  Z : Bool
  S : Bool
  O : Bool
  N : Int
  over : Int
def upd (R : Nat → Int) (r : Nat) (v : Int) : Nat → Int := fun i => if i = r then v else R i
def mc (cv rv wv : Value) (m : Mach) (op a b n : Int) : List Value :=
  [cv, rv, .int .i32 (m.R 0), .int .i32 (m.R 1), .int .i32 (m.R 2), .int .i32 (m.R 3), .int .i32 (m.R 4), .int .i32 (m.R 5), .int .i32 (m.R 6), .int .i32 (m.R 7),
   .int .i32 (m.R 8), .int .i32 (m.R 9), .int .i32 (m.R 10), .int .i32 (m.R 11), .int .i32 (m.R 12), .int .i32 (m.R 13), .int .i32 (m.R 14), .int .i32 (m.R 15),
   wv, .int .i64 m.at_, .int .i64 m.over, .int .i64 m.N, .bool m.Z, .bool m.S, .bool m.O, .int .i64 op, .int .i64 a, .int .i64 b, .int .i32 n]
theorem r16 {r : Nat} (h : r < 16) : r = 0 ∨ r = 1 ∨ r = 2 ∨ r = 3 ∨ r = 4 ∨ r = 5 ∨ r = 6 ∨ r = 7 ∨ r = 8 ∨ r = 9 ∨ r = 10 ∨ r = 11 ∨ r = 12 ∨ r = 13 ∨ r = 14 ∨ r = 15 := by omega
theorem mc_reg (cv rv wv : Value) (m : Mach) (op a b n : Int) {r : Nat} (h : r < 16) : (mc cv rv wv m op a b n)[2 + r]? = some (.int .i32 (m.R r)) := by
  rcases r16 h with e | e | e | e | e | e | e | e | e | e | e | e | e | e | e | e <;> subst e <;> rfl
theorem mc_setR (cv rv wv : Value) (m : Mach) (op a b n : Int) {r : Nat} (h : r < 16) (v : Int) : (mc cv rv wv m op a b n).set (2 + r) (.int .i32 v) = mc cv rv wv { m with R := upd m.R r v } op a b n := by
  rcases r16 h with e | e | e | e | e | e | e | e | e | e | e | e | e | e | e | e <;> subst e <;> simp [mc, upd]
structure SMem (w : World) (g : Nat) (cv rv wv : Value) (m : Mach) (op a b n : Int) : Prop where
  h : w.heap[g]? = some (.cells (mc cv rv wv m op a b n).toArray 60 (0, 0))
theorem SMem.set {w : World} {g : Nat} {cv rv wv : Value} {m : Mach} {op a b n : Int} (h : SMem w g cv rv wv m op a b n) (j : Nat) (u : Value) {m' : Mach} {op' a' b' n' : Int} (e : (mc cv rv wv m op a b n).set j u = mc cv rv wv m' op' a' b' n') :
    SMem (w.setCell ⟨g, j, none⟩ u) g cv rv wv m' op' a' b' n' := by
  constructor
  rw [setCell_self, h.h]
  simp only [Option.map_some, setObj, List.setIfInBounds_toArray, e]
theorem SMem.drew {w : World} {g : Nat} {cv rv wv : Value} {m : Mach} {op a b n : Int} (h : SMem w g cv rv wv m op a b n) : SMem w.drew g cv rv wv m op a b n := ⟨h.h⟩
theorem SMem.cell {w : World} {g : Nat} {cv rv wv : Value} {m : Mach} {op a b n : Int} (h : SMem w g cv rv wv m op a b n) (j : Nat) {u : Value} (e : (mc cv rv wv m op a b n)[j]? = some u) : w.cell? ⟨g, j, none⟩ = some u := by
  simp only [World.cell?, h.h]; simpa using e
theorem SMem.froz {w : World} {g : Nat} {cv rv wv : Value} {m : Mach} {op a b n : Int} (h : SMem w g cv rv wv m op a b n) (j : Nat) : w.frozen? ⟨g, j, none⟩ = false := by
  simp only [World.frozen?, h.h]; simp
structure Only (S : List Nat) (w w' : World) : Prop where
  os : w'.os = w.os
  tape : w'.tape = w.tape
  output : w'.output = w.output
  size : w.heap.size ≤ w'.heap.size
  same : ∀ c, c < w.heap.size → c ∉ S → w'.heap[c]? = w.heap[c]?
theorem Only.refl (S : List Nat) (w : World) : Only S w w := ⟨rfl, rfl, rfl, Nat.le_refl _, fun _ _ _ => rfl⟩
theorem Only.trans {S : List Nat} {w w1 w2 : World} (h : Only S w w1) (h' : Only S w1 w2) : Only S w w2 :=
  ⟨h'.os.trans h.os, h'.tape.trans h.tape, h'.output.trans h.output, Nat.le_trans h.size h'.size, fun c hc hs => (h'.same c (Nat.lt_of_lt_of_le hc h.size) hs).trans (h.same c hc hs)⟩
theorem Only.mono {S T : List Nat} {w w1 : World} (h : Only S w w1) (hS : ∀ c ∈ S, c ∈ T) : Only T w w1 := ⟨h.os, h.tape, h.output, h.size, fun c hc hn => h.same c hc fun hs => hn (hS c hs)⟩
theorem Only.drew {S : List Nat} {w w1 : World} (h : Only S w w1) : Only S w w1.drew := ⟨h.os, h.tape, h.output, h.size, h.same⟩
theorem Only.set {S : List Nat} {w w1 : World} (h : Only S w w1) {g j : Nat} (u : Value) (hg : g ∈ S) : Only S w (w1.setCell ⟨g, j, none⟩ u) := by
  have hb : Below g w1 (w1.setCell ⟨g, j, none⟩ u) := (Below.refl _ _).setCell (show g ≤ (⟨g, j, none⟩ : Addr).block from Nat.le_refl g) u
  refine ⟨by rw [hb.os]; exact h.os, by rw [hb.tape]; exact h.tape, by rw [hb.output]; exact h.output, Nat.le_trans h.size hb.size, fun c hc hn => ?_⟩
  rw [← h.same c hc hn]
  have hne : c ≠ g := fun e => hn (e ▸ hg)
  simp only [World.setCell, Array.getElem?_modify]
  rw [if_neg (fun e => hne e.symm)]
theorem Only.alloc {S : List Nat} {w w1 : World} (h : Only S w w1) (o : Obj) : Only S w (w1.alloc o) :=
  ⟨h.os, h.tape, h.output, by simp; have := h.size; omega, fun c hc hn => (Below.heap_alloc _ _ _ (Nat.lt_of_lt_of_le hc h.size)).trans (h.same c hc hn)⟩
theorem Only.below {S : List Nat} {w w1 : World} (h : Below w.heap.size w w1) : Only S w w1 := ⟨h.os, h.tape, h.output, h.size, fun c hc _ => h.block c hc⟩
theorem Only.below_of {S : List Nat} {w w1 : World} {B : Nat} (h : Only S w w1) (hS : ∀ c ∈ S, B ≤ c) (hB : B ≤ w.heap.size) : Below B w w1 := ⟨h.os, h.tape, h.output, h.size, fun c hc => h.same c (by omega) fun hs => by have := hS c hs; omega⟩
theorem SMem.keep {w w' : World} {g : Nat} {cv rv wv : Value} {m : Mach} {op a b n : Int} {S : List Nat} (h : SMem w g cv rv wv m op a b n) (ho : Only S w w') (hg : g ∉ S) : SMem w' g cv rv wv m op a b n :=
  ⟨(ho.same g (block_lt h.h) hg).trans h.h⟩
abbrev ptr (g : Nat) : Value := .pointer (some ⟨g, 0, none⟩)
theorem end30 (g : Nat) (cv rv wv : Value) (m : Mach) (op a b n s : Int) (w : World) (h : SMem w g cv rv wv m op a b n) :
    Calls Try.prog 30 #[ptr g, .int .i64 s] w fun e w' => e = .returned (.int .i64 s) ∧ SMem w' g cv rv wv { m with over := s } op a b n ∧ Only [g] w w' := by
  have c20 := h.cell 20 rfl
  have f20 := h.froz 20
  have H := Lib.hid h; clear h
  go_enter Try.func30, Try.ntmps30
  go_wp2_with fail
  go_ret
  exact ⟨rfl, H.out.set 20 _ rfl, (Only.refl _ _).set _ (by simp)⟩
theorem move39 (g : Nat) (cv rv wv : Value) (m : Mach) (a : Nat) (b n : Int) (w : World) (ha : a < 16) (h : SMem w g cv rv wv m 1 a b n) :
    Calls Try.prog 39 #[ptr g] w fun e w' => e = .returned (.int .i64 1) ∧ SMem w' g cv rv wv { m with R := upd m.R a n } 1 a b n ∧ Only [g] w w' := by
  have c25 := h.cell 25 rfl
  have c26 := h.cell 26 rfl
  have c28 := h.cell 28 rfl
  have cr := h.cell (2 + a) (mc_reg cv rv wv m 1 a b n ha)
  have fr := h.froz (2 + a)
  have H := Lib.hid h; clear h
  have ha' : (a : Int) < 16 := by omega
  go_enter Try.func39, Try.ntmps39
  go_wp2_with fail
  go_still_tail 14, (by kernel_rfl)
  repeat (first | still_step | (refine wpStill_step (fun K hK => ?_); go_simp; go_bits; refine hK _ ?_; clear hK K))
  try refine wpStill_nil ?_
  change wpList _ _ _ _ _ w.drew
  have H1 := Lib.hid H.out.drew
  have cr1 : w.drew.cell? ⟨g, 2 + a, none⟩ = some (.int .i32 (m.R a)) := cr
  have fr1 : w.drew.frozen? ⟨g, 2 + a, none⟩ = false := fr
  have ho := Lib.hid ((Only.refl [g] w).drew)
  clear cr fr c25 c26 c28
  generalize w.drew = w1 at *
  go_wp2_with fail
  go_ret
  exact ⟨rfl, H1.out.set (2 + a) _ (mc_setR cv rv wv m 1 a b n ha n), ho.out.set _ (by simp)⟩
end Go.Proofs.Ytpcocfdgcihpdaa.rdw
namespace Go.Proofs.Ytpcocfdgcihpdaa.rdw
open Go Go.RowKit Go.BigFrame
open Go.Proofs.Ytpcocfdgcihpdaa Go.Proofs.Ytpcocfdgcihpdaa.wr Go.Proofs.Ytpcocfdgcihpdaa.x86enc
theorem w32_rng (v : Int) : I32 (IntKind.i32.wrap v) := by
  rw [IntKind.wrap_i32]; unfold I32; omega
def fl (m : Mach) (v : Int) : Mach := { m with Z := IntKind.i32.wrap v == 0, S := decide (IntKind.i32.wrap v < 0), O := v != IntKind.i32.wrap v }
theorem flags52 (g : Nat) (cv rv wv : Value) (m : Mach) (op a b n v : Int) (w : World) (h : SMem w g cv rv wv m op a b n) :
    Calls Try.prog 52 #[ptr g, .int .i64 v] w fun e w' => e = .returned (.int .i32 (IntKind.i32.wrap v)) ∧ SMem w' g cv rv wv (fl m v) op a b n ∧ Only [g] w w' ∧ w'.heap.size = w.heap.size := by
  have c22 := h.cell 22 rfl
  have c23 := h.cell 23 rfl
  have c24 := h.cell 24 rfl
  have f22 := h.froz 22
  have f23 := h.froz 23
  have f24 := h.froz 24
  have H := Lib.hid h; clear h
  have hr := w32_rng v
  obtain ⟨x, hx⟩ : ∃ x, IntKind.i32.wrap v = x := ⟨_, rfl⟩
  have e1 : IntKind.i64.wrap x = x := by rw [← hx]; unfold I32 at hr; rw [IntKind.wrap_i64]; omega
  have hfl : fl m v = { m with Z := x == 0, S := decide (x < 0), O := v != x } := by unfold fl; rw [hx]
  rw [hfl, hx]
  have HX := Lib.hid hx
  clear hr hfl
  go_enter Try.func52, Try.ntmps52
  go_wp2_with fail
  go_ret
  refine ⟨rfl, ((H.out.set 22 (.bool (x == 0)) (m' := { m with Z := x == 0 }) rfl).set 23 (.bool (decide (x < 0))) (m' := { m with Z := x == 0, S := decide (x < 0) }) rfl).set 24 (.bool (v != x)) rfl, (((Only.refl _ _).set _ (by simp)).set _ (by simp)).set _ (by simp), by simp⟩
theorem leave45_25 (g : Nat) (cv rv wv : Value) (m : Mach) (a b n : Int) (w : World) (h : SMem w g cv rv wv m 25 a b n) :
    Calls Try.prog 45 #[ptr g] w fun e w' => e = .returned (.int .i64 2) ∧ w' = w := by
  have c25 := h.cell 25 rfl
  have H := Lib.hid h; clear h
  go_enter Try.func45, Try.ntmps45
  go_wp2_with fail
  go_ret
  exact ⟨rfl, rfl⟩
theorem leave45_26 (g : Nat) (cv rv wv : Value) (m : Mach) (a b n : Int) (hn : I32 n) (w : World) (h : SMem w g cv rv wv m 26 a b n) :
    Calls Try.prog 45 #[ptr g] w fun e w' => e = .returned (.int .i64 3) ∧ SMem w' g cv rv wv { m with N := n } 26 a b n ∧ Only [g] w w' := by
  have c25 := h.cell 25 rfl
  have c28 := h.cell 28 rfl
  have c21 := h.cell 21 rfl
  have f21 := h.froz 21
  have H := Lib.hid h; clear h
  have e1 : IntKind.i64.wrap n = n := by unfold I32 at hn; rw [IntKind.wrap_i64]; omega
  clear hn
  go_enter Try.func45, Try.ntmps45
  go_wp2_with fail
  go_ret
  exact ⟨rfl, H.out.set 21 _ rfl, (Only.refl _ _).set _ (by simp)⟩
def RegOk (m : Mach) : Prop := ∀ r, r < 16 → I32 (m.R r)
theorem sum41_5 (g : Nat) (cv rv wv : Value) (m : Mach) (a b : Nat) (n : Int) (hR : RegOk m) (ha : a < 16) (hb : b < 16) (w : World) (h : SMem w g cv rv wv m 5 a b n) :
    Calls Try.prog 41 #[ptr g] w fun e w' => e = .returned (.int .i64 1) ∧ SMem w' g cv rv wv { fl m (m.R a + m.R b) with R := upd m.R a (IntKind.i32.wrap (m.R a + m.R b)) } 5 a b n ∧ Only [g] w w' := by
  have c25 := h.cell 25 rfl
  have c26 := h.cell 26 rfl
  have c27 := h.cell 27 rfl
  have ca := h.cell (2 + a) (mc_reg cv rv wv m 5 a b n ha)
  have cb := h.cell (2 + b) (mc_reg cv rv wv m 5 a b n hb)
  have H := Lib.hid h; clear h
  have ha' : (a : Int) < 16 := by omega
  have hb' : (b : Int) < 16 := by omega
  have ra := hR a ha
  have rb := hR b hb
  unfold I32 at ra rb
  have e1 : IntKind.i64.wrap (m.R a) = m.R a := by rw [IntKind.wrap_i64]; omega
  have e2 : IntKind.i64.wrap (m.R b) = m.R b := by rw [IntKind.wrap_i64]; omega
  have e3 : IntKind.i64.wrap (m.R a + m.R b) = m.R a + m.R b := by rw [IntKind.wrap_i64]; omega
  have HR := Lib.hid hR; clear hR ra rb
  go_enter Try.func41, Try.ntmps41
  go_wp2_with fail
  go_quiet (fail)
  go_wp2_with fail
  have H1 : Hid (SMem (w.drewN nq) g cv rv wv m 5 a b n) := Lib.hid ⟨H.out.h⟩
  have HO : Hid (Only [g] w (w.drewN nq)) := Lib.hid ⟨rfl, rfl, rfl, Nat.le_refl _, fun _ _ _ => rfl⟩
  have c26' : (w.drewN nq).cell? ⟨g, 26, none⟩ = some (.int .i64 (a : Int)) := c26
  clear c25 c26 c27 ca cb
  generalize w.drewN nq = w1 at *
  go_region_law (go_simp; go_at_call 52; refine (flags52 g cv rv wv m 5 a b n (m.R a + m.R b) _ (show SMem w1.drew g cv rv wv m 5 a b n from H1.out.drew)).mono ?_; rintro e w2 ⟨rfl, h2, ho2, hs2⟩; have ho3 : Only [g] w1 w2 := ⟨ho2.os, ho2.tape, ho2.output, ho2.size, ho2.same⟩; have c26'' := h2.cell 26 rfl; have ca'' := h2.cell (2 + a) (mc_reg cv rv wv _ 5 a b n ha); have fa'' := h2.froz (2 + a); have H2 := Lib.hid h2; clear h2)
  all_goals go_wp2
  all_goals go_ret
  all_goals exact ⟨rfl, H2.out.set (2 + a) _ (mc_setR cv rv wv (fl m (m.R a + m.R b)) 5 a b n ha _), (HO.out.trans ho3).set _ (by simp)⟩
theorem is28 (r : Nat) (h : r < 16) (w : World) : Calls Try.prog 28 #[.int .i64 (r : Int)] w fun e w' => e = .returned (.bool (RD.reg r)) ∧ w' = w := by
  rcases r16 h with e | e | e | e | e | e | e | e | e | e | e | e | e | e | e | e <;> subst e <;>
    (go_enter Try.func28, Try.ntmps28
     go_wp2_with fail
     go_ret
     exact ⟨rfl, rfl⟩)
theorem reg16_0 (g : Nat) (cv rv wv : Value) (m : Mach) (op a b n : Int) (w : World) (h : SMem w g cv rv wv m op a b n) :
    Calls Try.prog 16 #[ptr g, .int .i64 0] w fun e w' => e = .returned (.int .i32 (m.R 0)) ∧ w' = w := by
  have c2 := h.cell 2 rfl
  have H := Lib.hid h; clear h
  go_enter Try.func16, Try.ntmps16
  go_wp2_with (go_at_call 28; refine (is28 0 (by omega) _).mono ?_; rintro e w1 ⟨rfl, rfl⟩)
  go_ret
  exact ⟨rfl, rfl⟩
structure WMem (w : World) (gw : Nat) (W : List Int) : Prop where
  h : w.heap[gw]? = some (.cells (W.map (Value.int .i32)).toArray 21 (0, 0))
theorem WMem.cell {w : World} {gw : Nat} {W : List Int} (h : WMem w gw W) (i : Nat) (hi : i < W.length) : w.cell? ⟨gw, i, none⟩ = some (.int .i32 (W.getD i 0)) := by
  simp only [World.cell?, h.h]
  simp [List.getD, hi]
theorem WMem.froz {w : World} {gw : Nat} {W : List Int} (h : WMem w gw W) (i : Nat) : w.frozen? ⟨gw, i, none⟩ = false := by
  simp only [World.frozen?, h.h]; simp
theorem WMem.set {w : World} {gw : Nat} {W : List Int} (h : WMem w gw W) (i : Nat) (v : Int) : WMem (w.setCell ⟨gw, i, none⟩ (.int .i32 v)) gw (W.set i v) := by
  constructor
  rw [setCell_self, h.h]
  simp only [Option.map_some, setObj, List.setIfInBounds_toArray, List.map_set]
theorem WMem.keep {w w' : World} {gw : Nat} {W : List Int} {S : List Nat} (h : WMem w gw W) (ho : Only S w w') (hg : gw ∉ S) : WMem w' gw W := ⟨(ho.same gw (block_lt h.h) hg).trans h.h⟩
abbrev wsl (gw : Nat) (n : Nat) : Value := .slice (some ⟨gw, 0, none⟩) n n
end Go.Proofs.Ytpcocfdgcihpdaa.rdw
