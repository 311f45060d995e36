/-
  caraferef22.Scan: what it holds.
-/
import Derived.Test.YtkejnhmhbmbhcaaAlW
import Derived.Test.YtkejnhmhbmbhcaaAlRuns
set_option maxHeartbeats 64000000
set_option maxRecDepth 1000000
set_option linter.unusedVariables false
set_option linter.unusedSimpArgs false
namespace Go.Proofs.Ytkejnhmhbmbhcaa.al
open Go Go.RowKit Go.BigFrame
open Go.Proofs.Ytkejnhmhbmbhcaa
structure Ow (w : World) (B g n cap : Nat) (D : Nat → Nat) : Prop where
  h : w.ownsRow B 3 1 (.slice (some ⟨g, 0, none⟩) n cap) n (ints D n)
theorem Ow.cell {w : World} {B g n cap : Nat} {D : Nat → Nat} (h : Ow w B g n cap D) {i : Nat} (hi : i < n) : w.cell? ⟨g, i, none⟩ = some (.int .i64 (D i : Int)) := by
  rw [h.h.cellAt i (by omega)]; simp [ints, hi]
theorem Ow.froz {w : World} {B g n cap : Nat} {D : Nat → Nat} (h : Ow w B g n cap D) (i : Nat) : w.frozen? ⟨g, i, none⟩ = false := h.h.frozenAt i
theorem Ow.drewN {w : World} {B g n cap : Nat} {D : Nat → Nat} (h : Ow w B g n cap D) (j : Nat) : Ow (w.drewN j) B g n cap D := ⟨h.h⟩
theorem Ow.set {w : World} {B g n cap : Nat} {D : Nat → Nat} (h : Ow w B g n cap D) (i v : Nat) : Ow (w.setCell ⟨g, i, none⟩ (.int .i64 (v : Int))) B g n cap (AlScan.upd D i v) := by
  have hs := h.h.stored i (.int .i64 (v : Int))
  rw [ints_set] at hs
  exact ⟨hs.1⟩
theorem Ow.lt {w : World} {B g n cap : Nat} {D : Nat → Nat} (h : Ow w B g n cap D) : B ≤ g ∧ g < w.heap.size := h.h.lt g rfl
theorem Ow.keep {w w' : World} {B g n cap : Nat} {D : Nat → Nat} {S : List Nat} (h : Ow w B g n cap D) (ho : Only S w w') (hg : g ∉ S) : Ow w' B g n cap D := by
  refine ⟨h.h.1, ?_⟩
  rcases h.h.2 with hn | ⟨g', cap', cur, e, hbg, hg', rest⟩
  · exact .inl hn
  · simp only [Value.slice.injEq, Option.some.injEq, Addr.mk.injEq, and_true, true_and] at e
    obtain ⟨rfl, rfl⟩ := e
    exact .inr ⟨g, cap, cur, rfl, hbg, (ho.same g (block_lt hg') hg).trans hg', rest⟩
theorem Ow.of {w : World} {B g n cap : Nat} {D E : Nat → Nat} (h : Ow w B g n cap D) (e : D = E) : Ow w B g n cap E := e ▸ h
structure HlM (w : World) (hb R : Nat) (f : Nat → Int) : Prop where
  c : ∀ r, r < R → w.cell? ⟨hb, r, none⟩ = some (.int .i64 (f r))
  z : ∀ j, w.frozen? ⟨hb, j, none⟩ = false
theorem HlM.keep {w w' : World} {hb R : Nat} {f : Nat → Int} {S : List Nat} (h : HlM w hb R f) (hl : hb < w.heap.size) (ho : Only S w w') (hS : hb ∉ S) : HlM w' hb R f :=
  ⟨fun r hr => cell_keep (h.c r hr) ho hS, fun j => froz_keep hl (h.z j) ho hS⟩
theorem HlM.set {w : World} {hb R : Nat} {f : Nat → Int} (h : HlM w hb R f) {i : Nat} (hi : i < R) (x : Int) : HlM (w.setCell ⟨hb, i, none⟩ (.int .i64 x)) hb R (AlScan.upd f i x) := by
  refine ⟨fun k hk => ?_, fun j => (World.frozen?_setCell _ _ _ _).trans (h.z j)⟩
  by_cases e : k = i
  · subst e
    rw [AlScan.upd_self]; exact World.cell?_setCell_same _ _ _ (h.c k hk)
  · rw [AlScan.upd_ne _ _ e, World.cell?_setCell_other _ _ _ _ (by simp <;> omega)]; exact h.c k hk
theorem HlM.of {w : World} {hb R : Nat} {f f' : Nat → Int} (h : HlM w hb R f) (e : ∀ r, r < R → f' r = f r) : HlM w hb R f' := ⟨fun r hr => by rw [e r hr]; exact h.c r hr, h.z⟩
theorem HlM.drewN {w : World} {hb R : Nat} {f : Nat → Int} (h : HlM w hb R f) (m : Nat) : HlM (w.drewN m) hb R f := ⟨h.c, h.z⟩
def enc : Option Nat → Int
  | none => -1
  | some g => (g : Int)
theorem good_snoc {s : AlScan.Sps} {k : Nat} (h : ∀ j, j < k → Good s j) (h' : Good s k) : ∀ j, j < k + 1 → Good s j := fun j hj => by
  by_cases e : j = k
  · rw [e]; exact h'
  · exact h j (by omega)
theorem _root_.AlScan.upd_id' {α : Type} (f : Nat → α) {i : Nat} {x : α} (h : f i = x) : AlScan.upd f i x = f := by
  funext j
  unfold AlScan.upd
  split
  · rename_i e; rw [e, h]
  · rfl
structure Ins (s : AlScan.Sps) (i : Nat) (D : Nat → Nat) : Prop where
  same : AlSo.Same (fun j => j) D 0 i
  sorted : AlSo.SortedOn (AlSo.ord s.F) D 0 i
theorem Ins.at {s : AlScan.Sps} {i : Nat} {D : Nat → Nat} (h : Ins s i D) {j : Nat} (hj : i ≤ j) : D j = j := h.same.out j (by omega)
theorem Ins.lt {s : AlScan.Sps} {i : Nat} {D : Nat → Nat} (h : Ins s i D) {j : Nat} (hj : j < i) : D j < i := by
  obtain ⟨k, _, hk, e⟩ := h.same.fro j (by omega) hj
  rw [e]; exact hk
theorem Ins.next {s : AlScan.Sps} {i k : Nat} {D : Nat → Nat} (h : Ins s i D) (hk : k ≤ i) (hup : ∀ j, k ≤ j → j < i → s.F (D i) < s.F (D j)) (hend : k = 0 ∨ ¬ s.F (D i) < s.F (D (k - 1))) : Ins s (i + 1) (AlSo.ins D k i) :=
  ⟨(h.same.wide (Nat.le_refl _) (by omega)).trans (AlSo.ins_same D (Nat.zero_le _) hk), AlSo.ins_sorted (Nat.zero_le _) hk h.sorted (fun j _ hj => by rw [h.at (Nat.le_refl i)]; exact h.lt hj) hup hend⟩
theorem Ins.srt {s : AlScan.Sps} {N : Nat} {D : Nat → Nat} (h : Ins s N D) : Srt s N (fun j => if j < N then D j else 0) := by
  refine ⟨⟨fun i hi => ?_, fun i h1 h2 => ?_, fun j h1 h2 => ?_⟩, fun i j h1 h2 h3 => ?_⟩
  · rw [if_neg (by omega), if_neg (by omega)]
  · obtain ⟨j, h3, h4, e⟩ := h.same.to i h1 h2
    exact ⟨j, h3, h4, by simp only [if_pos h4, if_pos h2]; exact e⟩
  · obtain ⟨i, h3, h4, e⟩ := h.same.fro j h1 h2
    exact ⟨i, h3, h4, by simp only [if_pos h4, if_pos h2]; exact e⟩
  · simp only [if_pos (show i < N by omega), if_pos h3]
    exact h.sorted i j h1 h2 h3
end Go.Proofs.Ytkejnhmhbmbhcaa.al
namespace Go.Proofs.Ytkejnhmhbmbhcaa.al
open Go Go.RowKit Go.BigFrame
open Go.Proofs.Ytkejnhmhbmbhcaa
structure RefS (w wq : World) (v : Value) (ob hb N R : Nat) (D : Nat → Nat) (V reg spill f : Nat → Int) : Prop where
  od : wq.ownsRow w.heap.size 3 1 v N (ints D N)
  gl : ∀ g, v.ownBlock = some g → g < ob
  pl : PlM wq ob N V reg spill
  hl : HlM wq hb R f
  bw : Below w.heap.size w wq
  o1 : w.heap.size ≤ ob
  o2 : ob < hb
  o3 : hb < wq.heap.size
section
variable {w wq w' : World} {v : Value} {ob hb N R : Nat} {D : Nat → Nat} {V reg spill f : Nat → Int}
theorem own_keep {S : List Nat} (h : wq.ownsRow w.heap.size 3 1 v N (ints D N)) (ho : Only S wq w') (hv : ∀ g, v.ownBlock = some g → g ∉ S) : w'.ownsRow w.heap.size 3 1 v N (ints D N) := by
  refine ⟨h.1, ?_⟩
  rcases h.2 with hn | ⟨g, cap, cur, rfl, hbg, hg, rest⟩
  · exact .inl hn
  · exact .inr ⟨g, cap, cur, rfl, hbg, (ho.same g (block_lt hg) (hv g rfl)).trans hg, rest⟩
theorem RefS.drewN (h : RefS w wq v ob hb N R D V reg spill f) (m : Nat) : RefS w (wq.drewN m) v ob hb N R D V reg spill f :=
  ⟨h.od, h.gl, ⟨h.pl.v, h.pl.r, h.pl.s, h.pl.z⟩, h.hl.drewN m, bel_drewN h.bw m, h.o1, h.o2, h.o3⟩
theorem RefS.setH (h : RefS w wq v ob hb N R D V reg spill f) {r : Nat} (hr : r < R) (x : Int) : RefS w (wq.setCell ⟨hb, r, none⟩ (.int .i64 x)) v ob hb N R D V reg spill (AlScan.upd f r x) := by
  have h1 := h.o1
  have h2 := h.o2
  have h3 := h.o3
  have ho : Only [hb] wq (wq.setCell ⟨hb, r, none⟩ (.int .i64 x)) := (Only.refl _ _).set _ (by simp)
  exact ⟨own_keep h.od ho (fun g hg => by have := h.gl g hg; simp; omega), h.gl, h.pl.keep (by omega) ho (by simp; omega), h.hl.set hr x, h.bw.trans (ho.below_of (fun c hc => by simp at hc; omega) h.bw.size), h1, h2, by have := ho.size; omega⟩
theorem RefS.setP {V' reg' spill' : Nat → Int} (h : RefS w wq v ob hb N R D V reg spill f) (ho : Only [ob] wq w') (hp : PlM w' ob N V' reg' spill') : RefS w w' v ob hb N R D V' reg' spill' f := by
  have h1 := h.o1
  have h2 := h.o2
  have h3 := h.o3
  exact ⟨own_keep h.od ho (fun g hg => by have := h.gl g hg; simp; omega), h.gl, hp, h.hl.keep (by omega) ho (by simp; omega), h.bw.trans (ho.below_of (fun c hc => by simp at hc; omega) h.bw.size), h1, h2, by have := ho.size; omega⟩
theorem RefS.of {f' : Nat → Int} (h : RefS w wq v ob hb N R D V reg spill f) (e : ∀ r, r < R → f' r = f r) : RefS w wq v ob hb N R D V reg spill f' := ⟨h.od, h.gl, h.pl, h.hl.of e, h.bw, h.o1, h.o2, h.o3⟩
theorem RefS.cell (h : RefS w wq v ob hb N R D V reg spill f) {i : Nat} (hi : i < N) : ∃ g cap, v = .slice (some ⟨g, 0, none⟩) N cap ∧ wq.cell? ⟨g, i, none⟩ = some (.int .i64 (D i : Int)) := by
  rcases h.od.2 with ⟨_, e⟩ | ⟨g, cap, cur, rfl, _⟩
  · omega
  · refine ⟨g, cap, rfl, ?_⟩
    rw [h.od.cellAt i (by omega)]; simp [ints, hi]
end
def EndS (w w' : World) (v : Value) (ob hb N R k : Nat) (s : AlScan.Sps) (D E : Nat → Nat) (a : AlScan.St) : Prop :=
  ∃ V reg spill, RefS w w' v ob hb N R D V reg spill (fun r => enc (a.held r)) ∧ AlScan.Agr s E k a V reg spill
section
variable {w w' : World} {v : Value} {ob hb N R k n : Nat} {s : AlScan.Sps} {D E : Nat → Nat} {a : AlScan.St} {V reg spill f : Nat → Int}
theorem agr_next (h : AlScan.Agr s E k a V reg spill) (hE : E k = n) {a' : AlScan.St} {V' reg' spill' : Nat → Int} (hn : V' n = s.V n ∧ reg' n = a'.reg n ∧ spill' n = a'.spill n)
    (ho : ∀ g, (∃ j, j < k ∧ E j = g) → g ≠ n → V' g = V g ∧ (reg g = a.reg g → reg' g = a'.reg g) ∧ (spill g = a.spill g → spill' g = a'.spill g)) : AlScan.Agr s E (k + 1) a' V' reg' spill' := by
  rintro g ⟨j, hj, e⟩
  by_cases c : g = n
  · rw [c]; exact hn
  · have hj2 : j < k := by
      rcases Nat.lt_or_ge j k with h1 | h1
      · exact h1
      · exact absurd (by rw [← e, ← hE, show j = k by omega]) c
    obtain ⟨h1, h2, h3⟩ := h g ⟨j, hj2, e⟩
    obtain ⟨q1, q2, q3⟩ := ho g ⟨j, hj2, e⟩ c
    exact ⟨q1.trans h1, q2 h2, q3 h3⟩
theorem end_free (h : Rnd s R N k n E a (AlScan.exp s n a.held)) (hA : AlScan.Agr s E k a V reg spill) {r : Nat} (hr : r < R) (h0 : AlScan.exp s n a.held r = none) (hm : ∀ y, y < r → AlScan.exp s n a.held y ≠ none)
    (hR : RefS w w' v ob hb N R D (AlScan.upd V n (s.V n)) (AlScan.upd (AlScan.upd reg n (-1)) n (r : Int)) (AlScan.upd spill n (-1)) (AlScan.upd (fun x => enc (AlScan.exp s n a.held x)) r (n : Int))) :
    ∃ a' : AlScan.St, a'.cnt = a.cnt ∧ AlScan.At s R N (k + 1) E a' ∧ EndS w w' v ob hb N R (k + 1) s D E a' := by
  refine ⟨⟨AlScan.upd a.reg n (r : Int), AlScan.upd a.spill n (-1), AlScan.upd (AlScan.exp s n a.held) r (some n), a.cnt⟩, rfl, h.aa.step h.o h.ft h.kk (by rw [h.nE]; exact .free r hr h0 hm), _, _, _, hR.of (fun x hx => ?_), agr_next hA h.nE ⟨AlScan.upd_self _ _ _, by dsimp only; rw [AlScan.upd_self, AlScan.upd_self], by dsimp only; rw [AlScan.upd_self, AlScan.upd_self]⟩ (fun g hg hne => ⟨AlScan.upd_ne _ _ hne, fun e => by dsimp only; rw [AlScan.upd_ne _ _ hne, AlScan.upd_ne _ _ hne, AlScan.upd_ne _ _ hne]; exact e, fun e => by dsimp only; rw [AlScan.upd_ne _ _ hne, AlScan.upd_ne _ _ hne]; exact e⟩)⟩
  dsimp only
  by_cases e : x = r
  · rw [e, AlScan.upd_self, AlScan.upd_self]; rfl
  · rw [AlScan.upd_ne _ _ e, AlScan.upd_ne _ _ e]
theorem end_self (h : Rnd s R N k n E a (AlScan.exp s n a.held)) (hA : AlScan.Agr s E k a V reg spill) (hs : AlScan.Step s R n a ⟨AlScan.upd a.reg n (-1), AlScan.upd a.spill n (a.cnt : Int), AlScan.exp s n a.held, a.cnt + 1⟩)
    (hR : RefS w w' v ob hb N R D (AlScan.upd V n (s.V n)) (AlScan.upd reg n (-1)) (AlScan.upd (AlScan.upd spill n (-1)) n (a.cnt : Int)) (fun x => enc (AlScan.exp s n a.held x))) :
    ∃ a' : AlScan.St, a'.cnt = a.cnt + 1 ∧ AlScan.At s R N (k + 1) E a' ∧ EndS w w' v ob hb N R (k + 1) s D E a' :=
  ⟨_, rfl, h.aa.step h.o h.ft h.kk (by rw [h.nE]; exact hs), _, _, _, hR, agr_next hA h.nE ⟨AlScan.upd_self _ _ _, by dsimp only; rw [AlScan.upd_self, AlScan.upd_self], by dsimp only; rw [AlScan.upd_self, AlScan.upd_self]⟩ (fun g hg hne => ⟨AlScan.upd_ne _ _ hne, fun e => by dsimp only; rw [AlScan.upd_ne _ _ hne, AlScan.upd_ne _ _ hne]; exact e, fun e => by dsimp only; rw [AlScan.upd_ne _ _ hne, AlScan.upd_ne _ _ hne, AlScan.upd_ne _ _ hne]; exact e⟩)⟩
theorem end_evict (h : Rnd s R N k n E a (AlScan.exp s n a.held)) (hA : AlScan.Agr s E k a V reg spill) {t r : Nat} (hne : t ≠ n) (hs : AlScan.Step s R n a ⟨AlScan.upd (AlScan.upd a.reg t (-1)) n (r : Int), AlScan.upd (AlScan.upd a.spill n (-1)) t (a.cnt : Int), AlScan.upd (AlScan.exp s n a.held) r (some n), a.cnt + 1⟩)
    (hR : RefS w w' v ob hb N R D (AlScan.upd V n (s.V n)) (AlScan.upd (AlScan.upd (AlScan.upd reg n (-1)) t (-1)) n (r : Int)) (AlScan.upd (AlScan.upd spill n (-1)) t (a.cnt : Int)) (AlScan.upd (fun x => enc (AlScan.exp s n a.held x)) r (n : Int))) :
    ∃ a' : AlScan.St, a'.cnt = a.cnt + 1 ∧ AlScan.At s R N (k + 1) E a' ∧ EndS w w' v ob hb N R (k + 1) s D E a' := by
  refine ⟨_, rfl, h.aa.step h.o h.ft h.kk (by rw [h.nE]; exact hs), _, _, _, hR.of (fun x hx => ?_), agr_next hA h.nE ⟨AlScan.upd_self _ _ _, by dsimp only; rw [AlScan.upd_self, AlScan.upd_self], ?_⟩ (fun g hg hgn => ⟨AlScan.upd_ne _ _ hgn, fun e => ?_, fun e => ?_⟩)⟩
  · dsimp only
    by_cases e : x = r
    · rw [e, AlScan.upd_self, AlScan.upd_self]; rfl
    · rw [AlScan.upd_ne _ _ e, AlScan.upd_ne _ _ e]
  · dsimp only
    rw [AlScan.upd_ne _ _ (Ne.symm hne), AlScan.upd_ne _ _ (Ne.symm hne), AlScan.upd_self, AlScan.upd_self]
  · dsimp only
    rw [AlScan.upd_ne _ _ hgn, AlScan.upd_ne _ _ hgn]
    by_cases c : g = t
    · rw [c, AlScan.upd_self, AlScan.upd_self]
    · rw [AlScan.upd_ne _ _ c, AlScan.upd_ne _ _ c, AlScan.upd_ne _ _ hgn]; exact e
  · dsimp only
    by_cases c : g = t
    · rw [c, AlScan.upd_self, AlScan.upd_self]
    · rw [AlScan.upd_ne _ _ c, AlScan.upd_ne _ _ c, AlScan.upd_ne _ _ hgn, AlScan.upd_ne _ _ hgn]; exact e
end
end Go.Proofs.Ytkejnhmhbmbhcaa.al
