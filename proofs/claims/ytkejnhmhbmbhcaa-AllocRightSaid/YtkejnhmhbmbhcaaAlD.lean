/-
  What the walks of chapter 22 share: rows of numbers in memory; two ranges that change places.
-/
import Derived.Test.YtkejnhmhbmbhcaaAlRuns
import Derived.Test.YtkejnhmhbmbhcaaProg
import Derived.WalkKit
import Derived.Below
import Derived.ProofKit
import Derived.OpenShut
import Derived.Deep.DeepCutAuto
import Derived.Deep.Cut
import Derived.Deep.QuietTactic
import Derived.BigQuiet
import Derived.LoopN
import Derived.Lib.Hide
import Derived.IntWalk
import Derived.OwnWalk
import Derived.Deep.RegionLaw
set_option maxHeartbeats 64000000
set_option maxRecDepth 1000000
set_option linter.unusedVariables false
set_option linter.unusedSimpArgs false
namespace Go.Proofs.Ytkejnhmhbmbhcaa.al
open Go Go.RowKit Go.BigFrame
open Go.Proofs.Ytkejnhmhbmbhcaa
def setObj (j : Nat) (u : Value) : Obj → Obj
  | .cells cs t fr => .cells (cs.setIfInBounds j u) t fr
  | o => o
theorem setCell_self (w : World) (g j : Nat) (u : Value) : (w.setCell ⟨g, j, none⟩ u).heap[g]? = (w.heap[g]?).map (setObj j u) := by
  simp only [World.setCell, Array.getElem?_modify, if_true]
  cases w.heap[g]? with
  | none => rfl
  | some o => cases o <;> rfl
theorem block_lt {w : World} {g : Nat} {o : Obj} (h : w.heap[g]? = some o) : g < w.heap.size := by
  apply Nat.lt_of_not_le
  intro hge
  have hn : w.heap[g]? = none := by simp [hge]
  rw [hn] at h; cases h
structure Only (S : List Nat) (w w' : World) : Prop where
  os : w'.os = w.os
  tape : w'.tape = w.tape
  output : w'.output = w.output
  size : w.heap.size ≤ w'.heap.size
  same : ∀ c, c < w.heap.size → c ∉ S → w'.heap[c]? = w.heap[c]?
theorem Only.refl (S : List Nat) (w : World) : Only S w w := ⟨rfl, rfl, rfl, Nat.le_refl _, fun _ _ _ => rfl⟩
theorem Only.trans {S : List Nat} {w w1 w2 : World} (h : Only S w w1) (h' : Only S w1 w2) : Only S w w2 :=
  ⟨h'.os.trans h.os, h'.tape.trans h.tape, h'.output.trans h.output, Nat.le_trans h.size h'.size, fun c hc hs => (h'.same c (Nat.lt_of_lt_of_le hc h.size) hs).trans (h.same c hc hs)⟩
theorem Only.mono {S T : List Nat} {w w1 : World} (h : Only S w w1) (hS : ∀ c ∈ S, c ∈ T) : Only T w w1 := ⟨h.os, h.tape, h.output, h.size, fun c hc hn => h.same c hc fun hs => hn (hS c hs)⟩
theorem Only.drew {S : List Nat} {w w1 : World} (h : Only S w w1) : Only S w w1.drew := ⟨h.os, h.tape, h.output, h.size, h.same⟩
theorem Only.set {S : List Nat} {w w1 : World} (h : Only S w w1) {g j : Nat} (u : Value) (hg : g ∈ S) : Only S w (w1.setCell ⟨g, j, none⟩ u) := by
  have hb : Below g w1 (w1.setCell ⟨g, j, none⟩ u) := (Below.refl _ _).setCell (show g ≤ (⟨g, j, none⟩ : Addr).block from Nat.le_refl g) u
  refine ⟨by rw [hb.os]; exact h.os, by rw [hb.tape]; exact h.tape, by rw [hb.output]; exact h.output, Nat.le_trans h.size hb.size, fun c hc hn => ?_⟩
  rw [← h.same c hc hn]
  have hne : c ≠ g := fun e => hn (e ▸ hg)
  simp only [World.setCell, Array.getElem?_modify]
  rw [if_neg (fun e => hne e.symm)]
theorem Only.alloc {S : List Nat} {w w1 : World} (h : Only S w w1) (o : Obj) : Only S w (w1.alloc o) :=
  ⟨h.os, h.tape, h.output, by simp; have := h.size; omega, fun c hc hn => (Below.heap_alloc _ _ _ (Nat.lt_of_lt_of_le hc h.size)).trans (h.same c hc hn)⟩
theorem Only.below {S : List Nat} {w w1 : World} (h : Below w.heap.size w w1) : Only S w w1 := ⟨h.os, h.tape, h.output, h.size, fun c hc _ => h.block c hc⟩
theorem Only.below_of {S : List Nat} {w w1 : World} {B : Nat} (h : Only S w w1) (hS : ∀ c ∈ S, B ≤ c) (hB : B ≤ w.heap.size) : Below B w w1 := ⟨h.os, h.tape, h.output, h.size, fun c hc => h.same c (by omega) fun hs => by have := hS c hs; omega⟩
theorem only_drewN (S : List Nat) (w : World) (n : Nat) : Only S w (w.drewN n) := ⟨rfl, rfl, rfl, Nat.le_refl _, fun _ _ _ => rfl⟩
structure IRow (w : World) (g n : Nat) (D : Nat → Nat) : Prop where
  h : w.heap[g]? = some (.cells ((List.range n).map fun i => Value.int .i64 (D i : Int)).toArray 3 (0, 0))
theorem IRow.cell {w : World} {g n : Nat} {D : Nat → Nat} (h : IRow w g n D) {i : Nat} (hi : i < n) : w.cell? ⟨g, i, none⟩ = some (.int .i64 (D i : Int)) := by
  simp only [World.cell?, h.h]
  simp [hi]
theorem IRow.froz {w : World} {g n : Nat} {D : Nat → Nat} (h : IRow w g n D) (i : Nat) : w.frozen? ⟨g, i, none⟩ = false := by
  simp only [World.frozen?, h.h]; simp
theorem IRow.set {w : World} {g n : Nat} {D : Nat → Nat} (h : IRow w g n D) (i v : Nat) : IRow (w.setCell ⟨g, i, none⟩ (.int .i64 (v : Int))) g n (AlScan.upd D i v) := by
  constructor
  rw [setCell_self, h.h]
  simp only [Option.map_some, setObj, List.setIfInBounds_toArray]
  have key : ((List.range n).map fun i => Value.int .i64 (D i : Int)).set i (.int .i64 (v : Int)) = (List.range n).map fun k => Value.int .i64 ((AlScan.upd D i v k : Nat) : Int) := by
    apply List.ext_getElem?
    intro k
    by_cases hk : i = k
    · subst hk
      by_cases hi : i < n
      · rw [List.getElem?_set_self (by simpa using hi)]
        simp [hi, AlScan.upd]
      · rw [List.getElem?_eq_none (by simp; omega), List.getElem?_eq_none (by simp; omega)]
    · rw [List.getElem?_set_ne hk]
      by_cases hi : k < n
      · simp [hi, AlScan.upd, Ne.symm hk]
      · rw [List.getElem?_eq_none (by simp; omega), List.getElem?_eq_none (by simp; omega)]
  rw [key]
theorem IRow.keep {w w' : World} {g n : Nat} {D : Nat → Nat} {S : List Nat} (h : IRow w g n D) (ho : Only S w w') (hg : g ∉ S) : IRow w' g n D := ⟨(ho.same g (block_lt h.h) hg).trans h.h⟩
theorem IRow.drewN {w : World} {g n : Nat} {D : Nat → Nat} (h : IRow w g n D) (j : Nat) : IRow (w.drewN j) g n D := ⟨h.h⟩
theorem IRow.of {w : World} {g n : Nat} {D E : Nat → Nat} (h : IRow w g n D) (e : D = E) : IRow w g n E := e ▸ h
abbrev isl (g n : Nat) : Value := .slice (some ⟨g, 0, none⟩) n n
abbrev ptr (g : Nat) : Value := .pointer (some ⟨g, 0, none⟩)
abbrev cmpv (bl : Nat) : Value := .func (.func 16) #[] #[ptr bl]
theorem swap33 (g n p q k : Nat) (D : Nat → Nat) (cv : Value) (hn : n ≤ 100000) (h1 : p + k ≤ q) (h2 : q + k ≤ n) (w : World) (h : IRow w g n D) :
    Calls Try.prog 33 #[isl g n, .int .i64 (p : Int), .int .i64 (q : Int), .int .i64 (k : Int), cv] w fun e w' => e = .returned (.tuple #[]) ∧ IRow w' g n (AlSo.swapR D p q k) ∧ Only [g] w w' := by
  have H := Lib.hid h; clear h
  go_enter Try.func33, Try.ntmps33
  go_wp2_with fail
  go_loopw [10] (fun s wq => ∃ i : Nat, i ≤ k ∧ s = .int .i64 (i : Int) ∧ Hid (IRow wq g n (AlSo.swapR D p q i) ∧ Only [g] w wq)) (fun s _ => k - (intOf s).toNat)
  case atStart => exact ⟨0, Nat.zero_le _, rfl, Lib.hid ⟨H.out.of (AlSo.swapR_zero D p q).symm, Only.refl _ _⟩⟩
  case round =>
    obtain ⟨i, hi, rfl, hM⟩ := hrel
    by_cases hi1 : i < k
    · have hkd : decide ((i : Int) < (k : Int)) = true := by simp; omega
      obtain ⟨E, hE⟩ : ∃ E, AlSo.swapR D p q i = E := ⟨_, rfl⟩
      have hs := AlSo.swapR_succ D (p := p) (q := q) (k := i) (by omega)
      rw [hE] at hM hs
      have c1 := hM.out.1.cell (i := p + i) (by omega)
      have c2 := hM.out.1.cell (i := q + i) (by omega)
      have f1 := hM.out.1.froz (p + i)
      have f2 := hM.out.1.froz (q + i)
      have e1 : IntKind.i64.wrap ((p : Int) + (i : Int)) = ((p + i : Nat) : Int) := by rw [IntKind.wrap_i64]; omega
      have e2 : IntKind.i64.wrap ((q : Int) + (i : Int)) = ((q + i : Nat) : Int) := by rw [IntKind.wrap_i64]; omega
      have b1 : ((p + i : Nat) : Int) < (n : Int) := by omega
      have b2 : ((q + i : Nat) : Int) < (n : Int) := by omega
      go_wp2_with fail
      go_region
      have hr : IRow (((wr.setCell ⟨g, p + i, none⟩ (.int .i64 (E (q + i) : Int))).setCell ⟨g, q + i, none⟩ (.int .i64 (E (p + i) : Int))).drew) g n (AlSo.swapR D p q (i + 1)) := by
        refine (((hM.out.1.set (p + i) (E (q + i))).set (q + i) (E (p + i))).drewN 1).of ?_
        rw [hs]
        funext x
        unfold AlScan.upd
        by_cases x1 : x = p + i
        · have x2 : x ≠ q + i := by omega
          simp only [if_neg x2, if_pos x1]
        · by_cases x2 : x = q + i
          · simp only [if_pos x2, if_neg x1]
          · simp only [if_neg x2, if_neg x1]
      have ho : Only [g] w (((wr.setCell ⟨g, p + i, none⟩ (.int .i64 (E (q + i) : Int))).setCell ⟨g, q + i, none⟩ (.int .i64 (E (p + i) : Int))).drew) := ((hM.out.2.set _ (by simp)).set _ (by simp)).drew
      have HR := Lib.hid (And.intro hr ho); clear hr ho
      generalize ((wr.setCell ⟨g, p + i, none⟩ (.int .i64 (E (q + i) : Int))).setCell ⟨g, q + i, none⟩ (.int .i64 (E (p + i) : Int))).drew = w2 at *
      go_wp2_with fail
      exact ⟨⟨i + 1, by omega, by go_num, HR⟩, by simp [intOf]; omega⟩
    · have hkd : decide ((i : Int) < (k : Int)) = false := by simp; omega
      obtain rfl : i = k := by omega
      go_wp2_with fail
      go_end0
      exact ⟨rfl, hM.out⟩
end Go.Proofs.Ytkejnhmhbmbhcaa.al
namespace Go.Proofs.Ytkejnhmhbmbhcaa.al
open Go Go.RowKit Go.BigFrame
open Go.Proofs.Ytkejnhmhbmbhcaa
theorem rotate32 (g n a m b : Nat) (D : Nat → Nat) (cv : Value) (hn : n ≤ 100000) (h1 : a < m) (h2 : m < b) (h3 : b ≤ n) (w : World) (h : IRow w g n D) :
    Calls Try.prog 32 #[isl g n, .int .i64 (a : Int), .int .i64 (m : Int), .int .i64 (b : Int), cv] w fun e w' => e = .returned (.tuple #[]) ∧ IRow w' g n (AlSo.rot D a m b) ∧ Only [g] w w' := by
  have H := Lib.hid h; clear h
  have e1 : IntKind.i64.wrap ((m : Int) - (a : Int)) = ((m - a : Nat) : Int) := by rw [IntKind.wrap_i64]; omega
  have e2 : IntKind.i64.wrap ((b : Int) - (m : Int)) = ((b - m : Nat) : Int) := by rw [IntKind.wrap_i64]; omega
  go_enter Try.func32, Try.ntmps32
  go_wp2_with fail
  go_loopw [10, 11] (fun s t wq => ∃ i j : Nat, 0 < i ∧ 0 < j ∧ i ≤ m ∧ m + j ≤ n ∧ s = .int .i64 (i : Int) ∧ t = .int .i64 (j : Int) ∧ Hid (∃ E, IRow wq g n E ∧ AlSo.rot E (m - i) m (m + j) = AlSo.rot D a m b ∧ Only [g] w wq)) (fun s t _ => (intOf s).toNat + (intOf t).toNat)
  case atStart => exact ⟨m - a, b - m, by omega, by omega, by omega, by omega, rfl, rfl, Lib.hid ⟨D, H.out, by rw [show m - (m - a) = a by omega, show m + (b - m) = b by omega], Only.refl _ _⟩⟩
  case round =>
    obtain ⟨i, j, hi0, hj0, him, hjn, rfl, rfl, hM⟩ := hrel
    obtain ⟨E, hE, hr, ho⟩ := hM.out
    have HE := Lib.hid hE; have HR := Lib.hid hr; have HO := Lib.hid ho
    clear hE hr ho hM e1 e2
    have e3 : IntKind.i64.wrap ((m : Int) - (i : Int)) = ((m - i : Nat) : Int) := by rw [IntKind.wrap_i64]; omega
    obtain ⟨N, hN⟩ : ∃ N, m + j = N := ⟨_, rfl⟩
    have e4 : IntKind.i64.wrap ((m : Int) + (j : Int)) = (N : Int) := by rw [IntKind.wrap_i64]; omega
    have e5 : IntKind.i64.wrap ((N : Int) - (i : Int)) = ((N - i : Nat) : Int) := by rw [IntKind.wrap_i64]; omega
    by_cases hij : i = j
    · subst hij
      have C := Lib.hid (swap33 g n (m - i) m i E cv hn (by omega) (by omega) wr HE.out)
      go_wp2_with (go_at_call 33; (with_reducible refine C.out.mono ?_); rintro e w2 ⟨rfl, hR, hO⟩)
      go_end0
      refine ⟨rfl, hR.of ?_, HO.out.trans hO⟩
      rw [← HR.out, AlSo.rot_even E him]
    · have hne : ((i : Int) == (j : Int)) = false := by simp; omega
      by_cases hlt : j < i
      · have hkd : decide ((j : Int) < (i : Int)) = true := by simp; omega
        have e6 : IntKind.i64.wrap ((i : Int) - (j : Int)) = ((i - j : Nat) : Int) := by rw [IntKind.wrap_i64]; omega
        have C := Lib.hid (swap33 g n (m - i) m j E cv hn (by omega) (by omega) wr HE.out)
        go_wp2_with (go_at_call 33; (with_reducible refine C.out.mono ?_); rintro e w2 ⟨rfl, hR, hO⟩)
        exact ⟨⟨i - j, j, by omega, hj0, by omega, hjn, by go_num, rfl, Lib.hid ⟨_, hR, by rw [← HR.out, AlSo.rot_left E him hlt hj0], HO.out.trans hO⟩⟩, by simp [intOf]; omega⟩
      · have hkd : decide ((j : Int) < (i : Int)) = false := by simp; omega
        have e6 : IntKind.i64.wrap ((j : Int) - (i : Int)) = ((j - i : Nat) : Int) := by rw [IntKind.wrap_i64]; omega
        have C := Lib.hid (swap33 g n (m - i) (N - i) i E cv hn (by omega) (by omega) wr HE.out)
        go_wp2_with (go_at_call 33; (with_reducible refine C.out.mono ?_); rintro e w2 ⟨rfl, hR, hO⟩)
        exact ⟨⟨i, j - i, hi0, by omega, him, by omega, rfl, by go_num, Lib.hid ⟨_, hR, by rw [← HR.out, AlSo.rot_right E him (by omega) hi0, hN], HO.out.trans hO⟩⟩, by simp [intOf]; omega⟩
end Go.Proofs.Ytkejnhmhbmbhcaa.al
namespace Go.Proofs.Ytkejnhmhbmbhcaa.al
open Go Go.RowKit Go.BigFrame
open Go.Proofs.Ytkejnhmhbmbhcaa
structure SpM (w : World) (bl bs off N cap : Nat) (s : AlScan.Sps) : Prop where
  l : 0 < N → w.cell? ⟨bl, 0, none⟩ = some (.slice (some ⟨bs, off, none⟩) N cap)
  v : ∀ i, i < N → w.cell? ⟨bs, off + i * 3, none⟩ = some (.int .i64 (s.V i))
  f : ∀ i, i < N → w.cell? ⟨bs, off + i * 3 + 1, none⟩ = some (.int .i64 (s.F i))
  t : ∀ i, i < N → w.cell? ⟨bs, off + i * 3 + 2, none⟩ = some (.int .i64 (s.T i))
theorem cell_keep {w w' : World} {b o : Nat} {v : Value} {S : List Nat} (h : w.cell? ⟨b, o, none⟩ = some v) (ho : Only S w w') (hb : b ∉ S) : w'.cell? ⟨b, o, none⟩ = some v := by
  have hlt : b < w.heap.size := World.block_lt_of_cell? w ⟨b, o, none⟩ h
  have e := ho.same b hlt hb
  simp only [World.cell?, e]
  exact h
theorem SpM.keep {w w' : World} {bl bs off N cap : Nat} {s : AlScan.Sps} {S : List Nat} (h : SpM w bl bs off N cap s) (ho : Only S w w') (h1 : bl ∉ S) (h2 : bs ∉ S) : SpM w' bl bs off N cap s :=
  ⟨fun h0 => cell_keep (h.l h0) ho h1, fun i hi => cell_keep (h.v i hi) ho h2, fun i hi => cell_keep (h.f i hi) ho h2, fun i hi => cell_keep (h.t i hi) ho h2⟩
theorem SpM.drewN {w : World} {bl bs off N cap : Nat} {s : AlScan.Sps} (h : SpM w bl bs off N cap s) (j : Nat) : SpM (w.drewN j) bl bs off N cap s := h.keep (S := []) (only_drewN _ _ _) (by simp) (by simp)
def cmpI (x y : Int) : Int := if x < y then -1 else if y < x then 1 else 0
theorem isNaN25 (x : Int) (w : World) : Calls Try.prog 25 #[.int .i64 x] w fun e w' => e = .returned (.bool false) ∧ w' = w := by
  go_enter Try.func25, Try.ntmps25
  go_wp2
  go_ret
  exact ⟨rfl, rfl⟩
theorem compare17 (x y : Int) (w : World) : Calls Try.prog 17 #[.int .i64 x, .int .i64 y] w fun e w' => e = .returned (.int .i64 (cmpI x y)) ∧ w' = w := by
  unfold cmpI
  by_cases h1 : x < y
  · have d1 : decide (x < y) = true := decide_eq_true h1
    rw [if_pos h1]
    go_enter Try.func17, Try.ntmps17
    go_wp2_with (go_at_call 25; (with_reducible refine (isNaN25 _ _).mono ?_); rintro e w1 ⟨rfl, rfl⟩)
    go_ret
    exact ⟨rfl, rfl⟩
  · have d1 : decide (x < y) = false := decide_eq_false h1
    rw [if_neg h1]
    by_cases h2 : y < x
    · have d2 : decide (y < x) = true := decide_eq_true h2
      rw [if_pos h2]
      go_enter Try.func17, Try.ntmps17
      go_wp2_with (go_at_call 25; (with_reducible refine (isNaN25 _ _).mono ?_); rintro e w1 ⟨rfl, rfl⟩)
      go_ret
      exact ⟨rfl, rfl⟩
    · have d2 : decide (y < x) = false := decide_eq_false h2
      rw [if_neg h2]
      go_enter Try.func17, Try.ntmps17
      go_wp2_with (go_at_call 25; (with_reducible refine (isNaN25 _ _).mono ?_); rintro e w1 ⟨rfl, rfl⟩)
      go_ret
      exact ⟨rfl, rfl⟩
theorem cmp16 (bl bs off N cap : Nat) (s : AlScan.Sps) (i j : Nat) (hi : i < N) (hj : j < N) (w : World) (h : SpM w bl bs off N cap s) :
    Calls Try.prog 16 #[.int .i64 (i : Int), .int .i64 (j : Int), ptr bl] w fun e w' => e = .returned (.int .i64 (cmpI (s.F i) (s.F j))) ∧ ∃ m, w' = w.drewN m := by
  have cl := h.l (by omega)
  have c1 := h.f i hi
  have c2 := h.f j hj
  have bi : (i : Int) < (N : Int) := by omega
  have bj : (j : Int) < (N : Int) := by omega
  have C := Lib.hid (fun W : World => compare17 (s.F i) (s.F j) W)
  clear h
  go_enter Try.func16, Try.ntmps16
  go_wp2_with fail
  go_quiet ((go_at_call 17; refine Calls.quiet_of_same (C.out _)))
  go_wp2_with fail
  go_ret
  exact ⟨rfl, _, rfl⟩
theorem less18 (bl bs off N cap : Nat) (s : AlScan.Sps) (i j : Nat) (hi : i < N) (hj : j < N) (w : World) (h : SpM w bl bs off N cap s) :
    Calls Try.prog 18 #[.int .i64 (i : Int), .int .i64 (j : Int), ptr bl] w fun e w' => e = .returned (.bool (decide (s.T i < s.T j))) ∧ ∃ m, w' = w.drewN m := by
  have cl := h.l (by omega)
  have c1 := h.t i hi
  have c2 := h.t j hj
  have bi : (i : Int) < (N : Int) := by omega
  have bj : (j : Int) < (N : Int) := by omega
  clear h
  go_enter Try.func18, Try.ntmps18
  go_wp2_with fail
  go_quiet (fail)
  go_wp2_with fail
  go_ret
  exact ⟨rfl, _, rfl⟩
theorem less19 (bl bs off N cap : Nat) (s : AlScan.Sps) (i j : Nat) (hi : i < N) (hj : j < N) (w : World) (h : SpM w bl bs off N cap s) :
    Calls Try.prog 19 #[.int .i64 (i : Int), .int .i64 (j : Int), ptr bl] w fun e w' => (∃ b : Bool, e = .returned (.bool b) ∧ (b = true ↔ AlScan.worse s i j)) ∧ ∃ m, w' = w.drewN m := by
  have cl := h.l (by omega)
  have c1 := h.t i hi
  have c2 := h.t j hj
  have c3 := h.v i hi
  have c4 := h.v j hj
  have bi : (i : Int) < (N : Int) := by omega
  have bj : (j : Int) < (N : Int) := by omega
  clear h
  obtain ⟨a, ha⟩ : ∃ a, s.T i = a := ⟨_, rfl⟩
  obtain ⟨b, hb⟩ : ∃ b, s.T j = b := ⟨_, rfl⟩
  have hw : AlScan.worse s i j ↔ (b < a ∨ (a = b ∧ s.V j < s.V i)) := by unfold AlScan.worse; rw [ha, hb]
  rw [ha] at c1
  rw [hb] at c2
  have HW := Lib.hid hw; clear hw ha hb
  by_cases h1 : b < a
  · have d1 : decide (b < a) = true := decide_eq_true h1
    go_enter Try.func19, Try.ntmps19
    go_wp2_with fail
    go_quiet (fail)
    go_wp2_with fail
    go_ret
    exact ⟨⟨true, rfl, by rw [HW.out]; simp [h1]⟩, _, rfl⟩
  · have d1 : decide (b < a) = false := decide_eq_false h1
    by_cases h2 : a = b
    · subst h2
      have d2 : (a == a) = true := by simp
      go_enter Try.func19, Try.ntmps19
      go_wp2_with fail
      go_quiet (fail)
      go_wp2_with fail
      go_ret
      exact ⟨⟨_, rfl, by rw [HW.out]; simp⟩, _, rfl⟩
    · have d2 : (a == b) = false := by simp [h2]
      go_enter Try.func19, Try.ntmps19
      go_wp2_with fail
      go_quiet (fail)
      go_wp2_with fail
      go_ret
      exact ⟨⟨false, rfl, by rw [HW.out]; simp; omega⟩, _, rfl⟩
end Go.Proofs.Ytkejnhmhbmbhcaa.al
namespace Go.Proofs.Ytkejnhmhbmbhcaa.al
open Go Go.RowKit Go.BigFrame
open Go.Proofs.Ytkejnhmhbmbhcaa
theorem insert30 (g n a b bl bs off N cap : Nat) (s : AlScan.Sps) (D : Nat → Nat) (hn : n ≤ 100000) (hab : a ≤ b) (hbn : b ≤ n) (hg : g ≠ bl ∧ g ≠ bs) (hD : ∀ i, i < n → D i < N) (hup : ∀ i j, a ≤ i → i < j → j < b → D i < D j) (w : World) (h : IRow w g n D) (hs : SpM w bl bs off N cap s) :
    Calls Try.prog 30 #[isl g n, .int .i64 (a : Int), .int .i64 (b : Int), cmpv bl] w fun e w' => e = .returned (.tuple #[]) ∧ (∃ E, IRow w' g n E ∧ AlSo.Same D E a b ∧ AlSo.SortedOn (AlSo.ord s.F) E a b) ∧ Only [g] w w' := by
  have H := Lib.hid h; clear h
  have HS := Lib.hid hs; clear hs
  have HD := Lib.hid hD; clear hD
  have HU := Lib.hid hup; clear hup
  have e1 : IntKind.i64.wrap ((a : Int) + 1) = ((a + 1 : Nat) : Int) := by rw [IntKind.wrap_i64]; omega
  go_enter Try.func30, Try.ntmps30
  go_wp2_with fail
  go_loopw [8] (fun u wq => ∃ i : Nat, a + 1 ≤ i ∧ (i ≤ b ∨ i = a + 1) ∧ u = .int .i64 (i : Int) ∧ Hid (∃ E, IRow wq g n E ∧ AlSo.Same D E a i ∧ AlSo.SortedOn (AlSo.ord s.F) E a i ∧ Only [g] w wq)) (fun u _ => b - (intOf u).toNat)
  case atStart => exact ⟨a + 1, Nat.le_refl _, .inr rfl, by go_num, Lib.hid ⟨D, H.out, AlSo.Same.refl _ _ _, fun i j h1 h2 h3 => by omega, Only.refl _ _⟩⟩
  case round =>
    obtain ⟨i, hia, hib, rfl, hM⟩ := hrel
    by_cases hi1 : i < b
    · have hkd : decide ((i : Int) < (b : Int)) = true := by simp; omega
      obtain ⟨E, hE, hsame, hsort, ho⟩ := hM.out
      have hEi : E i = D i := hsame.out i (by omega)
      have hx : ∀ k, a ≤ k → k < i → E k < E i := fun k h1 h2 => by
        obtain ⟨k', q1, q2, e⟩ := hsame.fro k h1 h2
        rw [e, hEi]; exact HU.out k' i q1 q2 hi1
      have hEN : ∀ k, k < n → E k < N := fun k hk => by
        by_cases hk2 : a ≤ k ∧ k < i
        · obtain ⟨k', q1, q2, e⟩ := hsame.fro k hk2.1 hk2.2
          rw [e]; exact HD.out k' (by omega)
        · rw [hsame.out k (by omega)]; exact HD.out k hk
      have HE := Lib.hid hE; have HSA := Lib.hid hsame; have HSO := Lib.hid hsort; have HO := Lib.hid ho; have HX := Lib.hid hx; have HEN := Lib.hid hEN
      clear hE hsame hsort ho hx hEN hM hEi e1
      have e2 : IntKind.i64.wrap ((i : Int) + 1) = ((i + 1 : Nat) : Int) := by rw [IntKind.wrap_i64]; omega
      go_wp2_with fail
      go_loopw [9] (fun u wq => ∃ j : Nat, a ≤ j ∧ j ≤ i ∧ u = .int .i64 (j : Int) ∧ Hid (IRow wq g n (AlSo.ins E j i) ∧ (∀ k, j ≤ k → k < i → s.F (E i) < s.F (E k)) ∧ Only [g] w wq)) (fun u _ => (intOf u).toNat)
      case atStart => exact ⟨i, by omega, Nat.le_refl _, rfl, Lib.hid ⟨by rw [AlSo.ins_self]; exact HE.out, fun k h1 h2 => by omega, HO.out⟩⟩
      case round =>
        clear HE HO
        obtain ⟨j, hja, hji, rfl, hM⟩ := hrel
        obtain ⟨hE, hk, ho⟩ := hM.out
        have HE := Lib.hid hE; have HK := Lib.hid hk; have HO := Lib.hid ho
        clear hE hk ho hM
        by_cases hj1 : a < j
        · have hjd : decide ((a : Int) < (j : Int)) = true := by simp; omega
          have e3 : IntKind.i64.wrap ((j : Int) - 1) = ((j - 1 : Nat) : Int) := by rw [IntKind.wrap_i64]; omega
          have c1 := HE.out.cell (i := j) (by omega)
          have c2 := HE.out.cell (i := j - 1) (by omega)
          have v1 : AlSo.ins E j i j = E i := if_pos rfl
          have v2 : AlSo.ins E j i (j - 1) = E (j - 1) := by unfold AlSo.ins; rw [if_neg (by omega), if_neg (by omega)]
          rw [v1] at c1
          rw [v2] at c2
          have b1 : (j : Int) < (n : Int) := by omega
          have b2 : ((j - 1 : Nat) : Int) < (n : Int) := by omega
          have hsp := HS.out.keep HO.out (by simp; exact fun e => hg.1 e.symm) (by simp; exact fun e => hg.2 e.symm)
          have C := fun m : Nat => cmp16 bl bs off N cap s (E i) (E (j - 1)) (HEN.out _ (by omega)) (HEN.out _ (by omega)) (wr.drewN m) (hsp.drewN m)
          by_cases hlt : s.F (E i) < s.F (E (j - 1))
          · have hv : cmpI (s.F (E i)) (s.F (E (j - 1))) = -1 := if_pos hlt
            simp only [hv] at C
            have HC := Lib.hid C; clear C hsp hv
            go_wp2_with fail
            go_quiet ((go_at_call 16; refine Calls.quiet_of (HC.out _)))
            have f1 := HE.out.froz j
            have f2 := HE.out.froz (j - 1)
            go_wp2_with fail
            go_region
            have hr : IRow (((wr.drewN (nq + 1)).setCell ⟨g, j, none⟩ (.int .i64 (E (j - 1) : Int))).setCell ⟨g, j - 1, none⟩ (.int .i64 (E i : Int))) g n (AlSo.ins E (j - 1) i) := by
              refine (((HE.out.drewN (nq + 1)).set j (E (j - 1))).set (j - 1) (E i)).of ?_
              rw [← AlSo.ins_step E (by omega) hji, v1, v2]
            have ho : Only [g] w (((wr.drewN (nq + 1)).setCell ⟨g, j, none⟩ (.int .i64 (E (j - 1) : Int))).setCell ⟨g, j - 1, none⟩ (.int .i64 (E i : Int))) := ((HO.out.trans (only_drewN _ _ _)).set _ (by simp)).set _ (by simp)
            have hk2 : ∀ k, j - 1 ≤ k → k < i → s.F (E i) < s.F (E k) := fun k h1 h2 => by
              by_cases e : k = j - 1
              · rw [e]; exact hlt
              · exact HK.out k (by omega) h2
            have HR := Lib.hid (And.intro hr (And.intro hk2 ho)); clear hr ho hk2 c1 c2 f1 f2
            generalize (((wr.drewN (nq + 1)).setCell ⟨g, j, none⟩ (.int .i64 (E (j - 1) : Int))).setCell ⟨g, j - 1, none⟩ (.int .i64 (E i : Int))) = w2 at *
            go_wp2_with fail
            exact ⟨⟨j - 1, by omega, by omega, by go_num, HR⟩, by simp [intOf]; omega⟩
          · obtain ⟨v, hv, hv2⟩ : ∃ v, cmpI (s.F (E i)) (s.F (E (j - 1))) = v ∧ decide (v < 0) = false := by
              refine ⟨_, rfl, ?_⟩
              unfold cmpI
              rw [if_neg hlt]
              split <;> rfl
            simp only [hv] at C
            have HC := Lib.hid C; clear C hsp hv
            go_wp2_with fail
            go_quiet ((go_at_call 16; refine Calls.quiet_of (HC.out _)))
            go_wp2_with fail
            exact ⟨⟨i + 1, by omega, .inl (by omega), by go_num, Lib.hid ⟨_, HE.out.drewN _, (HSA.out.wide (Nat.le_refl _) (by omega)).trans (AlSo.ins_same E hja hji), AlSo.ins_sorted hja hji HSO.out HX.out HK.out (.inr (by omega)), HO.out.trans (only_drewN _ _ _)⟩⟩, by simp [intOf]; omega⟩
        · have hjd : decide ((a : Int) < (j : Int)) = false := by simp; omega
          obtain rfl : j = a := by omega
          go_wp2_with fail
          go_quiet (fail)
          go_wp2_with fail
          exact ⟨⟨i + 1, by omega, .inl (by omega), by go_num, Lib.hid ⟨_, HE.out.drewN _, (HSA.out.wide (Nat.le_refl _) (by omega)).trans (AlSo.ins_same E hja hji), AlSo.ins_sorted hja hji HSO.out HX.out HK.out (.inl rfl), HO.out.trans (only_drewN _ _ _)⟩⟩, by simp [intOf]; omega⟩
    · have hkd : decide ((i : Int) < (b : Int)) = false := by simp; omega
      go_wp2_with fail
      go_end0
      obtain ⟨E, hE, hsame, hsort, ho⟩ := hM.out
      refine ⟨rfl, ⟨E, hE, ?_, ?_⟩, ho⟩
      · by_cases hib2 : i = b
        · exact hib2 ▸ hsame
        · have : i = a + 1 ∧ a = b := by omega
          obtain ⟨rfl, rfl⟩ := this
          have hall : ∀ k, E k = D k := fun k => by
            by_cases hka : k = a
            · obtain ⟨k', q1, q2, e⟩ := hsame.fro a (Nat.le_refl _) (by omega)
              rw [hka, e]; congr 1; omega
            · exact hsame.out k (by omega)
          rw [show E = D from funext hall]
          exact AlSo.Same.refl _ _ _
      · exact fun p q h1 h2 h3 => hsort p q h1 h2 (by omega)
end Go.Proofs.Ytkejnhmhbmbhcaa.al
