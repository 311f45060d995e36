/-
  What alloc.Scan holds in memory.
-/
import Derived.Test.YtkejnhmhbmbhcaaAlP
import Derived.Test.YtkejnhmhbmbhcaaAlH
import Derived.Test.YtkejnhmhbmbhcaaAlRuns
set_option maxHeartbeats 64000000
set_option maxRecDepth 1000000
set_option linter.unusedVariables false
set_option linter.unusedSimpArgs false
namespace Go.Proofs.Ytkejnhmhbmbhcaa.al
open Go Go.RowKit Go.BigFrame
open Go.Proofs.Ytkejnhmhbmbhcaa
theorem info33 : (Try.prog.info? 33).map (fun i => (i.zero, i.size, i.bytes)) = some (some (.agg #[.int .i64 0, .int .i64 0, .int .i64 0]), 3, 24) := by kernel_rfl
structure PlM (w : World) (ob N : Nat) (V reg spill : Nat → Int) : Prop where
  v : ∀ i, i < N → w.cell? ⟨ob, i * 3, none⟩ = some (.int .i64 (V i))
  r : ∀ i, i < N → w.cell? ⟨ob, i * 3 + 1, none⟩ = some (.int .i64 (reg i))
  s : ∀ i, i < N → w.cell? ⟨ob, i * 3 + 2, none⟩ = some (.int .i64 (spill i))
  z : ∀ j, w.frozen? ⟨ob, j, none⟩ = false
theorem froz_keep {w w' : World} {b o : Nat} {S : List Nat} (hl : b < w.heap.size) (h : w.frozen? ⟨b, o, none⟩ = false) (ho : Only S w w') (hb : b ∉ S) : w'.frozen? ⟨b, o, none⟩ = false :=
  (World.frozen?_of_block (a := ⟨b, o, none⟩) (ho.same b hl hb)).trans h
theorem PlM.keep {w w' : World} {ob N : Nat} {V reg spill : Nat → Int} {S : List Nat} (h : PlM w ob N V reg spill) (hl : ob < w.heap.size) (ho : Only S w w') (hb : ob ∉ S) : PlM w' ob N V reg spill :=
  ⟨fun i hi => cell_keep (h.v i hi) ho hb, fun i hi => cell_keep (h.r i hi) ho hb, fun i hi => cell_keep (h.s i hi) ho hb, fun j => froz_keep hl (h.z j) ho hb⟩
theorem PlM.setR {w : World} {ob N : Nat} {V reg spill : Nat → Int} (h : PlM w ob N V reg spill) {i : Nat} (hi : i < N) (x : Int) : PlM (w.setCell ⟨ob, i * 3 + 1, none⟩ (.int .i64 x)) ob N V (AlScan.upd reg i x) spill := by
  refine ⟨fun k hk => ?_, fun k hk => ?_, fun k hk => ?_, fun j => (World.frozen?_setCell _ _ _ _).trans (h.z j)⟩
  · rw [World.cell?_setCell_other _ _ _ _ (by simp <;> omega)]; exact h.v k hk
  · by_cases e : k = i
    · subst e
      rw [AlScan.upd_self]; exact World.cell?_setCell_same _ _ _ (h.r k hk)
    · rw [AlScan.upd_ne _ _ e, World.cell?_setCell_other _ _ _ _ (by simp <;> omega)]; exact h.r k hk
  · rw [World.cell?_setCell_other _ _ _ _ (by simp <;> omega)]; exact h.s k hk
theorem PlM.setV {w : World} {ob N : Nat} {V reg spill : Nat → Int} (h : PlM w ob N V reg spill) {i : Nat} (hi : i < N) (x : Int) : PlM (w.setCell ⟨ob, i * 3, none⟩ (.int .i64 x)) ob N (AlScan.upd V i x) reg spill := by
  refine ⟨fun k hk => ?_, fun k hk => ?_, fun k hk => ?_, fun j => (World.frozen?_setCell _ _ _ _).trans (h.z j)⟩
  · by_cases e : k = i
    · subst e
      rw [AlScan.upd_self]; exact World.cell?_setCell_same _ _ _ (h.v k hk)
    · rw [AlScan.upd_ne _ _ e, World.cell?_setCell_other _ _ _ _ (by simp <;> omega)]; exact h.v k hk
  · rw [World.cell?_setCell_other _ _ _ _ (by simp <;> omega)]; exact h.r k hk
  · rw [World.cell?_setCell_other _ _ _ _ (by simp <;> omega)]; exact h.s k hk
theorem PlM.setS {w : World} {ob N : Nat} {V reg spill : Nat → Int} (h : PlM w ob N V reg spill) {i : Nat} (hi : i < N) (x : Int) : PlM (w.setCell ⟨ob, i * 3 + 2, none⟩ (.int .i64 x)) ob N V reg (AlScan.upd spill i x) := by
  refine ⟨fun k hk => ?_, fun k hk => ?_, fun k hk => ?_, fun j => (World.frozen?_setCell _ _ _ _).trans (h.z j)⟩
  · rw [World.cell?_setCell_other _ _ _ _ (by simp <;> omega)]; exact h.v k hk
  · rw [World.cell?_setCell_other _ _ _ _ (by simp <;> omega)]; exact h.r k hk
  · by_cases e : k = i
    · subst e
      rw [AlScan.upd_self]; exact World.cell?_setCell_same _ _ _ (h.s k hk)
    · rw [AlScan.upd_ne _ _ e, World.cell?_setCell_other _ _ _ _ (by simp <;> omega)]; exact h.s k hk
theorem PlM.of {w : World} {ob N : Nat} {V reg spill V' reg' spill' : Nat → Int} (h : PlM w ob N V reg spill) (h1 : ∀ i, i < N → V' i = V i) (h2 : ∀ i, i < N → reg' i = reg i) (h3 : ∀ i, i < N → spill' i = spill i) : PlM w ob N V' reg' spill' :=
  ⟨fun i hi => by rw [h1 i hi]; exact h.v i hi, fun i hi => by rw [h2 i hi]; exact h.r i hi, fun i hi => by rw [h3 i hi]; exact h.s i hi, h.z⟩
structure HdM (w : World) (hb : Nat) (F : Nat → Bool) : Prop where
  c : ∀ r, r < 16 → w.cell? ⟨hb, r, none⟩ = some (.bool (F r))
  z : ∀ j, w.frozen? ⟨hb, j, none⟩ = false
theorem HdM.keep {w w' : World} {hb : Nat} {F : Nat → Bool} {S : List Nat} (h : HdM w hb F) (ho : Only S w w') (hS : hb ∉ S) : HdM w' hb F :=
  ⟨fun r hr => cell_keep (h.c r hr) ho hS, fun j => froz_keep (World.block_lt_of_cell? w ⟨hb, 0, none⟩ (h.c 0 (by omega))) (h.z j) ho hS⟩
theorem HdM.set {w : World} {hb : Nat} {F : Nat → Bool} (h : HdM w hb F) {i : Nat} (hi : i < 16) (b : Bool) : HdM (w.setCell ⟨hb, i, none⟩ (.bool b)) hb (AlScan.upd F i b) := by
  refine ⟨fun k hk => ?_, fun j => (World.frozen?_setCell _ _ _ _).trans (h.z j)⟩
  by_cases e : k = i
  · subst e
    rw [AlScan.upd_self]; exact World.cell?_setCell_same _ _ _ (h.c k hk)
  · rw [AlScan.upd_ne _ _ e, World.cell?_setCell_other _ _ _ _ (by simp <;> omega)]; exact h.c k hk
structure Bks (W0 bs bl ob gb p1 p2 hb B : Nat) : Prop where
  h0 : bs < W0
  h1 : W0 ≤ bl
  h2 : bl < ob
  h3 : ob < gb
  h4 : gb < p1
  h5 : p1 < p2
  h6 : p2 < hb
  h7 : hb < B
structure RS (w0 w : World) (bs bl ob gb p1 p2 hb B off N cap : Nat) (s : AlScan.Sps) (E : Nat → Nat) (reg spill : Nat → Int) (F : Nat → Bool) : Prop where
  sp : SpM w bl bs off N cap s
  od : IRow w gb N E
  pl : PlM w ob N s.V reg spill
  hd : HdM w hb F
  bw : Below w0.heap.size w0 w
  sz : B ≤ w.heap.size
section
variable {w0 w w' : World} {bs bl ob gb p1 p2 hb B off N cap : Nat} {s : AlScan.Sps} {E : Nat → Nat} {reg spill : Nat → Int} {F : Nat → Bool}
theorem RS.keep {S : List Nat} (K : Bks w0.heap.size bs bl ob gb p1 p2 hb B) (h : RS w0 w bs bl ob gb p1 p2 hb B off N cap s E reg spill F) (ho : Only S w w') (hS : ∀ c ∈ S, c = p1 ∨ c = p2 ∨ B ≤ c) : RS w0 w' bs bl ob gb p1 p2 hb B off N cap s E reg spill F := by
  obtain ⟨h0, h1, h2, h3, h4, h5, h6, h7⟩ := K
  have hsz := h.sz
  refine ⟨h.sp.keep ho (fun hc => by have := hS _ hc; omega) (fun hc => by have := hS _ hc; omega), h.od.keep ho (fun hc => by have := hS _ hc; omega), h.pl.keep (by omega) ho (fun hc => by have := hS _ hc; omega), h.hd.keep ho (fun hc => by have := hS _ hc; omega), h.bw.trans (ho.below_of (fun c hc => by have := hS _ hc; omega) (by omega)), Nat.le_trans hsz ho.size⟩
theorem RS.setH (K : Bks w0.heap.size bs bl ob gb p1 p2 hb B) (h : RS w0 w bs bl ob gb p1 p2 hb B off N cap s E reg spill F) {i : Nat} (hi : i < 16) (b : Bool) : RS w0 (w.setCell ⟨hb, i, none⟩ (.bool b)) bs bl ob gb p1 p2 hb B off N cap s E reg spill (AlScan.upd F i b) := by
  obtain ⟨h0, h1, h2, h3, h4, h5, h6, h7⟩ := K
  have hsz := h.sz
  have ho : Only [hb] w (w.setCell ⟨hb, i, none⟩ (.bool b)) := (Only.refl _ _).set _ (by simp)
  exact ⟨h.sp.keep ho (by simp <;> omega) (by simp <;> omega), h.od.keep ho (by simp <;> omega), h.pl.keep (by omega) ho (by simp <;> omega), h.hd.set hi b, h.bw.trans (ho.below_of (fun c hc => by simp at hc; omega) (by omega)), Nat.le_trans hsz ho.size⟩
theorem RS.setP (K : Bks w0.heap.size bs bl ob gb p1 p2 hb B) (h : RS w0 w bs bl ob gb p1 p2 hb B off N cap s E reg spill F) {reg' spill' : Nat → Int} (ho : Only [ob] w w') (hp : PlM w' ob N s.V reg' spill') : RS w0 w' bs bl ob gb p1 p2 hb B off N cap s E reg' spill' F := by
  obtain ⟨h0, h1, h2, h3, h4, h5, h6, h7⟩ := K
  have hsz := h.sz
  exact ⟨h.sp.keep ho (by simp <;> omega) (by simp <;> omega), h.od.keep ho (by simp <;> omega), hp, h.hd.keep ho (by simp <;> omega), h.bw.trans (ho.below_of (fun c hc => by simp at hc; omega) (by omega)), Nat.le_trans hsz ho.size⟩
end
def OkRow (w : World) (v v' : Value) : Prop := ∀ g ∈ blk v', g ∈ blk v ∨ w.heap.size ≤ g
theorem OkRow.same {w : World} {v v' : Value} (h : v'.ownBlock = v.ownBlock) : OkRow w v v' := fun g hg => .inl (by unfold blk at *; rw [← h]; exact hg)
theorem NewRow.ok {w : World} {v v' : Value} (h : NewRow w v v') : OkRow w v v' := fun g hg => by
  obtain ⟨g', e, h'⟩ := h
  simp only [blk, Option.mem_toList, Option.mem_def] at hg ⊢
  rw [e] at hg
  injection hg with hg
  subst hg
  exact h'
structure HH (w : World) (B p1 p2 bl : Nat) (s : AlScan.Sps) (v1 v2 : Value) (L1 L2 : Nat) (S1 S2 : Nat → Prop) : Prop where
  h1 : HS w B p1 v1 L1 (lsf 18 bl) (later s) S1
  h2 : HS w B p2 v2 L2 (lsf 19 bl) (AlScan.worse s) S2
  dj : ∀ c ∈ blk v1, c ∉ blk v2
theorem HS.lt {w : World} {B p L : Nat} {v lf : Value} {lt : Nat → Nat → Prop} {S : Nat → Prop} (h : HS w B p v L lf lt S) : ∀ c ∈ blk v, B ≤ c ∧ c < w.heap.size := fun c hc => by
  obtain ⟨D, hv, _⟩ := h
  simp only [blk, Option.mem_toList, Option.mem_def] at hc
  exact hv.row.lt c hc
theorem HS.keep {w w' : World} {B p L : Nat} {v lf : Value} {lt : Nat → Nat → Prop} {S : Nat → Prop} {T : List Nat} (h : HS w B p v L lf lt S) (ho : Only T w w') (hp : p ∉ T) (hS : ∀ g ∈ blk v, g ∉ T) : HS w' B p v L lf lt S := by
  obtain ⟨D, hv, h'⟩ := h
  exact ⟨D, hv.keep ho hp hS, h'⟩
theorem HS.of {w : World} {B p L : Nat} {v lf : Value} {lt : Nat → Nat → Prop} {S S' : Nat → Prop} (h : HS w B p v L lf lt S) (e : ∀ y, S y ↔ S' y) : HS w B p v L lf lt S' := by
  obtain ⟨D, hv, h1, h2, h3⟩ := h
  exact ⟨D, hv, h1, h2, fun x => (h3 x).trans (e x)⟩
theorem HS.pos {w : World} {B p L : Nat} {v lf : Value} {lt : Nat → Nat → Prop} {S : Nat → Prop} (h : HS w B p v L lf lt S) {x : Nat} (hx : S x) : ∃ M, L = M + 1 := by
  obtain ⟨D, hv, h1, h2, h3⟩ := h
  obtain ⟨i, hi, _⟩ := (h3 x).2 hx
  exact ⟨L - 1, by omega⟩
section
variable {w w' : World} {B p1 p2 bl : Nat} {s : AlScan.Sps} {v1 v2 v' : Value} {L1 L2 L' : Nat} {S1 S2 S' : Nat → Prop}
theorem HH.first (h : HH w B p1 p2 bl s v1 v2 L1 L2 S1 S2) (hp : p1 < B ∧ p2 < B ∧ p1 ≠ p2) (h' : HS w' B p1 v' L' (lsf 18 bl) (later s) S') (hr : OkRow w v1 v') (ho : Only (p1 :: blk v1) w w') : HH w' B p1 p2 bl s v' v2 L' L2 S' S2 := by
  have hb := h.h2.lt
  have hb1 := h.h1.lt
  refine ⟨h', h.h2.keep ho ?_ (fun g hg => ?_), fun c hc hc2 => ?_⟩
  · simp only [List.mem_cons, not_or]
    exact ⟨fun e => hp.2.2 e.symm, fun hc => by have := hb1 _ hc; omega⟩
  · simp only [List.mem_cons, not_or]
    exact ⟨fun e => by have := hb _ hg; omega, fun hc => h.dj g hc hg⟩
  · rcases hr c hc with h3 | h3
    · exact h.dj c h3 hc2
    · have := hb _ hc2; omega
theorem HH.second (h : HH w B p1 p2 bl s v1 v2 L1 L2 S1 S2) (hp : p1 < B ∧ p2 < B ∧ p1 ≠ p2) (h' : HS w' B p2 v' L' (lsf 19 bl) (AlScan.worse s) S') (hr : OkRow w v2 v') (ho : Only (p2 :: blk v2) w w') : HH w' B p1 p2 bl s v1 v' L1 L' S1 S' := by
  have hb := h.h1.lt
  have hb2 := h.h2.lt
  refine ⟨h.h1.keep ho ?_ (fun g hg => ?_), h', fun c hc hc2 => ?_⟩
  · simp only [List.mem_cons, not_or]
    exact ⟨hp.2.2, fun hc => by have := hb2 _ hc; omega⟩
  · simp only [List.mem_cons, not_or]
    exact ⟨fun e => by have := hb _ hg; omega, fun hc => h.dj g hg hc⟩
  · rcases hr c hc2 with h3 | h3
    · exact h.dj c hc h3
    · have := hb _ hc; omega
theorem HH.other {b : Nat} (h : HH w B p1 p2 bl s v1 v2 L1 L2 S1 S2) (ho : Only [b] w w') (hb : b < B ∧ b ≠ p1 ∧ b ≠ p2) : HH w' B p1 p2 bl s v1 v2 L1 L2 S1 S2 := by
  have h1 := h.h1.lt
  have h2 := h.h2.lt
  refine ⟨h.h1.keep ho (by simp <;> omega) (fun g hg => by have := h1 _ hg; simp; omega), h.h2.keep ho (by simp <;> omega) (fun g hg => by have := h2 _ hg; simp; omega), h.dj⟩
theorem HH.of {S1' S2' : Nat → Prop} (h : HH w B p1 p2 bl s v1 v2 L1 L2 S1 S2) (e1 : ∀ y, S1 y ↔ S1' y) (e2 : ∀ y, S2 y ↔ S2' y) : HH w B p1 p2 bl s v1 v2 L1 L2 S1' S2' := ⟨h.h1.of e1, h.h2.of e2, h.dj⟩
theorem HH.drewN (h : HH w B p1 p2 bl s v1 v2 L1 L2 S1 S2) (m : Nat) : HH (w.drewN m) B p1 p2 bl s v1 v2 L1 L2 S1 S2 := by
  obtain ⟨⟨D, h1, h1'⟩, ⟨E, h2, h2'⟩, dj⟩ := h
  exact ⟨⟨D, h1.drewN m, h1'⟩, ⟨E, h2.drewN m, h2'⟩, dj⟩
end
end Go.Proofs.Ytkejnhmhbmbhcaa.al
namespace Go.Proofs.Ytkejnhmhbmbhcaa.al
open Go Go.RowKit Go.BigFrame
open Go.Proofs.Ytkejnhmhbmbhcaa
def lenAt (w : World) (p : Nat) : Nat := match w.cell? ⟨p, 0, none⟩ with
  | some (.slice _ n _) => n
  | _ => 0
theorem HS.shape {w : World} {B p L : Nat} {v lf : Value} {lt : Nat → Nat → Prop} {S : Nat → Prop} (h : HS w B p v L lf lt S) : ∃ o c, v = .slice o L c ∧ w.cell? ⟨p, 0, none⟩ = some v ∧ lenAt w p = L := by
  obtain ⟨D, hv, _⟩ := h
  rcases hv.row.2 with ⟨rfl, rfl⟩ | ⟨g, cap, cur, rfl, _⟩
  · exact ⟨none, 0, rfl, hv.c0, by simp [lenAt, hv.c0]⟩
  · exact ⟨_, cap, rfl, hv.c0, by simp [lenAt, hv.c0]⟩
theorem HS.top {w : World} {B p L : Nat} {v lf : Value} {lt : Nat → Nat → Prop} {S : Nat → Prop} (h : HS w B p v L lf lt S) (o : AlHp.Wk lt) (hL : 0 < L) : ∃ g cap d, v = .slice (some ⟨g, 0, none⟩) L cap ∧ w.cell? ⟨g, 0, none⟩ = some (.int .i64 ((d : Nat) : Int)) ∧ S d ∧ ∀ y, S y → ¬ lt y d := by
  obtain ⟨D, hv, h1, h2, h3⟩ := h
  obtain ⟨g, cap, rfl, hp⟩ := hv.p hL
  refine ⟨g, cap, D 0, rfl, hp.cell hL, (h3 _).1 ⟨0, hL, rfl⟩, fun y hy => ?_⟩
  obtain ⟨i, hi, e⟩ := (h3 y).2 hy
  rw [← e]
  exact h1.least o i hi
theorem HS.zero {w : World} {B p : Nat} {v lf : Value} {lt : Nat → Nat → Prop} {S : Nat → Prop} (h : HS w B p v 0 lf lt S) (y : Nat) : ¬ S y := fun hy => by
  obtain ⟨M, e⟩ := h.pos hy
  omega
def InS (w wq : World) (bs bl ob gb p1 p2 hb B off N cap k : Nat) (s : AlScan.Sps) (E : Nat → Nat) (reg spill : Nat → Int) (H : Nat → Option Nat) : Prop :=
  ∃ v1 v2 L1 L2 Fb, RS w wq bs bl ob gb p1 p2 hb B off N cap s E reg spill Fb ∧ HH wq B p1 p2 bl s v1 v2 L1 L2 (AlScan.Held H) (AlScan.Held H) ∧ (∀ r, r < 16 → Fb r = (H r).isSome) ∧ L1 ≤ k ∧ L2 ≤ k
section
variable {w0 w : World} {bs bl ob gb p1 p2 hb B off N cap : Nat} {s : AlScan.Sps}
theorem Bks.g1 (K : Bks w0.heap.size bs bl ob gb p1 p2 hb B) : Gd 18 (later s) B bl bs off N cap s p1 := by
  obtain ⟨h0, h1, h2, h3, h4, h5, h6, h7⟩ := K
  exact ⟨later_wk s, ls18 B bl bs off N cap s, by omega, by omega, by omega, by omega⟩
theorem Bks.g2 (K : Bks w0.heap.size bs bl ob gb p1 p2 hb B) : Gd 19 (AlScan.worse s) B bl bs off N cap s p2 := by
  obtain ⟨h0, h1, h2, h3, h4, h5, h6, h7⟩ := K
  exact ⟨worse_wk s, ls19 B bl bs off N cap s, by omega, by omega, by omega, by omega⟩
theorem Bks.pp (K : Bks w0.heap.size bs bl ob gb p1 p2 hb B) : p1 < B ∧ p2 < B ∧ p1 ≠ p2 := by
  obtain ⟨h0, h1, h2, h3, h4, h5, h6, h7⟩ := K
  omega
theorem Bks.hbx (K : Bks w0.heap.size bs bl ob gb p1 p2 hb B) : hb < B ∧ hb ≠ p1 ∧ hb ≠ p2 := by
  obtain ⟨h0, h1, h2, h3, h4, h5, h6, h7⟩ := K
  omega
theorem Bks.obx (K : Bks w0.heap.size bs bl ob gb p1 p2 hb B) : ob < B ∧ ob ≠ p1 ∧ ob ≠ p2 := by
  obtain ⟨h0, h1, h2, h3, h4, h5, h6, h7⟩ := K
  omega
end
section
variable {w wz : World} {bs bl ob gb p1 p2 hb B off N cap L1 L2 : Nat} {s : AlScan.Sps} {E : Nat → Nat} {reg spill : Nat → Int} {v1 v2 : Value} {Fb : Nat → Bool} {S1 S2 : Nat → Prop}
theorem RS.first {w' : World} (K : Bks w.heap.size bs bl ob gb p1 p2 hb B) (hR : RS w wz bs bl ob gb p1 p2 hb B off N cap s E reg spill Fb) (hH : HH wz B p1 p2 bl s v1 v2 L1 L2 S1 S2) (o1 : Only (p1 :: blk v1) wz w') : RS w w' bs bl ob gb p1 p2 hb B off N cap s E reg spill Fb :=
  hR.keep K o1 (fun c hc => by rcases List.mem_cons.1 hc with e | e; exact .inl e; exact .inr (.inr (hH.h1.lt c e).1))
theorem RS.second {w' : World} (K : Bks w.heap.size bs bl ob gb p1 p2 hb B) (hR : RS w wz bs bl ob gb p1 p2 hb B off N cap s E reg spill Fb) (hH : HH wz B p1 p2 bl s v1 v2 L1 L2 S1 S2) (o2 : Only (p2 :: blk v2) wz w') : RS w w' bs bl ob gb p1 p2 hb B off N cap s E reg spill Fb :=
  hR.keep K o2 (fun c hc => by rcases List.mem_cons.1 hc with e | e; exact .inr (.inl e); exact .inr (.inr (hH.h2.lt c e).1))
theorem c_push1 (K : Bks w.heap.size bs bl ob gb p1 p2 hb B) (hR : RS w wz bs bl ob gb p1 p2 hb B off N cap s E reg spill Fb) (hH : HH wz B p1 p2 bl s v1 v2 L1 L2 S1 S2) {n : Nat} (hx : ¬ S1 n) (hS : ∀ y, S1 y → y < N) (hn : n < N) (hL : L1 ≤ 900) :
    Calls Try.prog 22 #[.iface 48 (ptr p1), .iface 3 (.int .i64 (n : Int))] wz fun e w' => e = .returned (.tuple #[]) ∧ ∃ v', RS w w' bs bl ob gb p1 p2 hb B off N cap s E reg spill Fb ∧ HH w' B p1 p2 bl s v' v2 (L1 + 1) L2 (fun y => S1 y ∨ y = n) S2 :=
  (push22 K.g1 L1 v1 S1 n hL hx hS hn wz hH.h1 hR.sz hR.sp).mono fun e w' ⟨h1, v', h2, h3, h4⟩ => ⟨h1, v', hR.first K hH h4, hH.first K.pp h2 h3.ok h4⟩
theorem c_push2 (K : Bks w.heap.size bs bl ob gb p1 p2 hb B) (hR : RS w wz bs bl ob gb p1 p2 hb B off N cap s E reg spill Fb) (hH : HH wz B p1 p2 bl s v1 v2 L1 L2 S1 S2) {n : Nat} (hx : ¬ S2 n) (hS : ∀ y, S2 y → y < N) (hn : n < N) (hL : L2 ≤ 900) :
    Calls Try.prog 22 #[.iface 48 (ptr p2), .iface 3 (.int .i64 (n : Int))] wz fun e w' => e = .returned (.tuple #[]) ∧ ∃ v', RS w w' bs bl ob gb p1 p2 hb B off N cap s E reg spill Fb ∧ HH w' B p1 p2 bl s v1 v' L1 (L2 + 1) S1 (fun y => S2 y ∨ y = n) :=
  (push22 K.g2 L2 v2 S2 n hL hx hS hn wz hH.h2 hR.sz hR.sp).mono fun e w' ⟨h1, v', h2, h3, h4⟩ => ⟨h1, v', hR.second K hH h4, hH.second K.pp h2 h3.ok h4⟩
theorem c_pop1 (K : Bks w.heap.size bs bl ob gb p1 p2 hb B) (hR : RS w wz bs bl ob gb p1 p2 hb B off N cap s E reg spill Fb) (hH : HH wz B p1 p2 bl s v1 v2 L1 L2 S1 S2) (hS : ∀ y, S1 y → y < N) (hL : L1 ≤ 900) (h0 : 0 < L1) :
    Calls Try.prog 20 #[.iface 48 (ptr p1)] wz fun e w' => ∃ (t : Nat) (v' : Value), e = .returned (.iface 3 (.int .i64 (t : Int))) ∧ S1 t ∧ (∀ y, S1 y → ¬ later s y t) ∧ RS w w' bs bl ob gb p1 p2 hb B off N cap s E reg spill Fb ∧ HH w' B p1 p2 bl s v' v2 (L1 - 1) L2 (fun y => S1 y ∧ y ≠ t) S2 := by
  obtain ⟨M, rfl⟩ : ∃ M, L1 = M + 1 := ⟨L1 - 1, by omega⟩
  exact (pop20 K.g1 M v1 S1 (by omega) hS wz hH.h1 hR.sp).mono fun e w' ⟨t, v', h1, h2, h3, h4, h5, h6⟩ => ⟨t, v', h1, h2, h3, hR.first K hH h6, hH.first K.pp h4 (OkRow.same h5) h6⟩
theorem c_pop2 (K : Bks w.heap.size bs bl ob gb p1 p2 hb B) (hR : RS w wz bs bl ob gb p1 p2 hb B off N cap s E reg spill Fb) (hH : HH wz B p1 p2 bl s v1 v2 L1 L2 S1 S2) (hS : ∀ y, S2 y → y < N) (hL : L2 ≤ 900) (h0 : 0 < L2) :
    Calls Try.prog 20 #[.iface 48 (ptr p2)] wz fun e w' => ∃ (t : Nat) (v' : Value), e = .returned (.iface 3 (.int .i64 (t : Int))) ∧ S2 t ∧ (∀ y, S2 y → ¬ AlScan.worse s y t) ∧ RS w w' bs bl ob gb p1 p2 hb B off N cap s E reg spill Fb ∧ HH w' B p1 p2 bl s v1 v' L1 (L2 - 1) S1 (fun y => S2 y ∧ y ≠ t) := by
  obtain ⟨M, rfl⟩ : ∃ M, L2 = M + 1 := ⟨L2 - 1, by omega⟩
  exact (pop20 K.g2 M v2 S2 (by omega) hS wz hH.h2 hR.sp).mono fun e w' ⟨t, v', h1, h2, h3, h4, h5, h6⟩ => ⟨t, v', h1, h2, h3, hR.second K hH h6, hH.second K.pp h4 (OkRow.same h5) h6⟩
theorem c_drop1 (K : Bks w.heap.size bs bl ob gb p1 p2 hb B) (hR : RS w wz bs bl ob gb p1 p2 hb B off N cap s E reg spill Fb) (hH : HH wz B p1 p2 bl s v1 v2 L1 L2 S1 S2) (hS : ∀ y, S1 y → y < N) (hL : L1 ≤ 900) {t : Nat} (ht : S1 t) :
    Calls Try.prog 21 #[ptr p1, .int .i64 (t : Int)] wz fun e w' => e = .returned (.tuple #[]) ∧ ∃ v', RS w w' bs bl ob gb p1 p2 hb B off N cap s E reg spill Fb ∧ HH w' B p1 p2 bl s v' v2 (L1 - 1) L2 (fun y => S1 y ∧ y ≠ t) S2 := by
  obtain ⟨M, rfl⟩ := hH.h1.pos ht
  exact (drop21 K.g1 M t v1 S1 (by omega) ht hS wz hH.h1 hR.sp).mono fun e w' ⟨h1, v', h4, h5, h6⟩ => ⟨h1, v', hR.first K hH h6, hH.first K.pp h4 (OkRow.same h5) h6⟩
theorem c_drop2 (K : Bks w.heap.size bs bl ob gb p1 p2 hb B) (hR : RS w wz bs bl ob gb p1 p2 hb B off N cap s E reg spill Fb) (hH : HH wz B p1 p2 bl s v1 v2 L1 L2 S1 S2) (hS : ∀ y, S2 y → y < N) (hL : L2 ≤ 900) {t : Nat} (ht : S2 t) :
    Calls Try.prog 21 #[ptr p2, .int .i64 (t : Int)] wz fun e w' => e = .returned (.tuple #[]) ∧ ∃ v', RS w w' bs bl ob gb p1 p2 hb B off N cap s E reg spill Fb ∧ HH w' B p1 p2 bl s v1 v' L1 (L2 - 1) S1 (fun y => S2 y ∧ y ≠ t) := by
  obtain ⟨M, rfl⟩ := hH.h2.pos ht
  exact (drop21 K.g2 M t v2 S2 (by omega) ht hS wz hH.h2 hR.sp).mono fun e w' ⟨h1, v', h4, h5, h6⟩ => ⟨h1, v', hR.second K hH h6, hH.second K.pp h4 (OkRow.same h5) h6⟩
theorem RS.drewN (h : RS w wz bs bl ob gb p1 p2 hb B off N cap s E reg spill Fb) (m : Nat) : RS w (wz.drewN m) bs bl ob gb p1 p2 hb B off N cap s E reg spill Fb :=
  ⟨h.sp.drewN m, h.od.drewN m, ⟨h.pl.v, h.pl.r, h.pl.s, h.pl.z⟩, ⟨h.hd.c, h.hd.z⟩, h.bw.trans ⟨rfl, rfl, rfl, Nat.le_refl _, fun _ _ => rfl⟩, h.sz⟩
end
theorem InS.letgo {w w2 : World} {bs bl ob gb p1 p2 hb B off N cap k M1 M2 t r : Nat} {s : AlScan.Sps} {E : Nat → Nat} {reg spill : Nat → Int} {H : Nat → Option Nat} {v1 v2 : Value} {Fb : Nat → Bool}
    (K : Bks w.heap.size bs bl ob gb p1 p2 hb B) (R2 : RS w w2 bs bl ob gb p1 p2 hb B off N cap s E reg spill Fb) (H2 : HH w2 B p1 p2 bl s v1 v2 M1 M2 (fun y => AlScan.Held H y ∧ y ≠ t) (fun y => AlScan.Held H y ∧ y ≠ t)) (hF : ∀ r, r < 16 → Fb r = (H r).isSome) (o : AlScan.One H reg) (hg : H r = some t) (hr : r < 16) (l1 : M1 ≤ k) (l2 : M2 ≤ k) :
    InS w (w2.setCell ⟨hb, r, none⟩ (.bool false)) bs bl ob gb p1 p2 hb B off N cap k s E reg spill (AlScan.upd H r none) ∧ lenAt (w2.setCell ⟨hb, r, none⟩ (.bool false)) p1 = M1 := by
  have H3 : HH (w2.setCell ⟨hb, r, none⟩ (.bool false)) B p1 p2 bl s v1 v2 M1 M2 _ _ := H2.other ((Only.refl [hb] _).set _ (by simp)) K.hbx
  refine ⟨⟨_, _, _, _, _, R2.setH K hr false, H3.of (fun y => (AlScan.held_upd_none o hg y).symm) (fun y => (AlScan.held_upd_none o hg y).symm), fun x hx => ?_, l1, l2⟩, ?_⟩
  · by_cases e : x = r
    · subst e; simp [AlScan.upd_self]
    · rw [AlScan.upd_ne _ _ e, AlScan.upd_ne _ _ e]; exact hF x hx
  · obtain ⟨_, _, _, _, h⟩ := H3.h1.shape
    exact h
end Go.Proofs.Ytkejnhmhbmbhcaa.al
namespace Go.Proofs.Ytkejnhmhbmbhcaa.al
open Go Go.RowKit Go.BigFrame
open Go.Proofs.Ytkejnhmhbmbhcaa
theorem ln52 : Try.prog.arrayLen 52 = 16 := by kernel_rfl
theorem ar52 : Try.prog.underlying 52 = some (.array (Try.prog.arrayLen 52) (Try.prog.elem 52)) := by kernel_rfl
theorem sz52 (w : World) : Sem.run Try.prog (Go.sizeOf (Try.prog.elem 52)) w = .ok 1 w := by kernel_rfl
theorem sl52 (hb R : Nat) (hR : R ≤ 16) (w : World) : Sem.run Try.prog (Instr.sliceAt 52 (.pointer (some ⟨hb, 0, none⟩)) none (some (.int .i64 (R : Int))) none) w = .ok (.slice (some ⟨hb, 0, none⟩) R 16) w := by
  rw [run_sliceAt_array_h w 52 ⟨hb, 0, none⟩ ar52 .i64 (R : Int) (by omega) (by rw [ln52]; omega), sz52, ln52]
  simp [slicedAt, Result.andThen, Addr.add]
theorem mid_le {s : AlScan.Sps} {n : Nat} {held H : Nat → Option Nat} (h : AlScan.Mid s n held H) {r g : Nat} (hg : H r = some g) : held r = some g := by
  rcases h r with e | ⟨e, _⟩
  · rw [← e]; exact hg
  · rw [e] at hg; cases hg
structure Rnd (s : AlScan.Sps) (R N k n : Nat) (E : Nat → Nat) (a : AlScan.St) (H : Nat → Option Nat) : Prop where
  o : AlScan.Ordr s N E
  ft : ∀ g, g < N → s.F g ≤ s.T g
  vv : ∀ x y, x < N → y < N → x ≠ y → s.V x ≠ s.V y
  aa : AlScan.At s R N k E a
  kk : k < N
  nE : E k = n
  m : AlScan.Mid s n a.held H
section
variable {s : AlScan.Sps} {R N k n : Nat} {E : Nat → Nat} {a : AlScan.St} {H : Nat → Option Nat}
theorem Rnd.one (h : Rnd s R N k n E a H) : AlScan.One H a.reg := h.aa.one.mid h.m
theorem Rnd.reg (h : Rnd s R N k n E a H) {r g : Nat} (hg : H r = some g) : r < R := (h.aa.reg (mid_le h.m hg)).1
theorem Rnd.lt (h : Rnd s R N k n E a H) : ∀ y, AlScan.Held H y → y < N := fun y ⟨r, hr⟩ => by
  obtain ⟨j, hj, e⟩ := (h.aa.reg (mid_le h.m hr)).2
  have hk := h.kk
  rw [← e]; exact h.o.lt j (by omega)
theorem Rnd.nn (h : Rnd s R N k n E a H) : n < N := by rw [← h.nE]; exact h.o.lt k h.kk
theorem Rnd.lt2 (h : Rnd s R N k n E a H) : ∀ y, (AlScan.Held H y ∨ y = n) → y < N := fun y hy => by
  rcases hy with hy | hy
  · exact h.lt y hy
  · rw [hy]; exact h.nn
theorem Rnd.new (h : Rnd s R N k n E a H) : ¬ AlScan.Held H n := fun ⟨r, hr⟩ => by
  obtain ⟨j, hj, e⟩ := (h.aa.reg (mid_le h.m hr)).2
  have hk := h.kk
  have := h.o.inj j k (by omega) hk (by rw [e, h.nE])
  omega
theorem Rnd.un (h : Rnd s R N k n E a H) : a.reg n = -1 ∧ a.spill n = -1 := h.aa.un n fun j hj e => by
  have hk := h.kk
  have := h.o.inj j k (by omega) hk (by rw [e, h.nE])
  omega
theorem Rnd.go (h : Rnd s R N k n E a H) {r t : Nat} (hg : H r = some t) (hT : s.T t < s.F n) : Rnd s R N k n E a (AlScan.upd H r none) := ⟨h.o, h.ft, h.vv, h.aa, h.kk, h.nE, h.m.step hg hT⟩
theorem upd_same {α : Type} (f : Nat → α) {i : Nat} {x : α} (h : f i = x) : AlScan.upd f i x = f := by
  funext j
  unfold AlScan.upd
  split
  · rename_i e; rw [e, h]
  · rfl
end
section
variable {w w' : World} {bs bl ob gb p1 p2 hb B off N cap L1 L2 R k n : Nat} {s : AlScan.Sps} {E : Nat → Nat} {a : AlScan.St} {H : Nat → Option Nat} {v1 v2 : Value} {Fb : Nat → Bool}
theorem fin_free (h : Rnd s R N k n E a H) (eH : H = AlScan.exp s n a.held) (hF : ∀ r, r < 16 → Fb r = (H r).isSome) (hR16 : R ≤ 16) {r : Nat} (hr : r < R) (hFr : Fb r = false) (hFm : ∀ j, j < r → Fb j = true)
    (hR : RS w w' bs bl ob gb p1 p2 hb B off N cap s E (AlScan.upd a.reg n (r : Int)) a.spill (AlScan.upd Fb r true)) (hH : HH w' B p1 p2 bl s v1 v2 (L1 + 1) (L2 + 1) (fun y => AlScan.Held H y ∨ y = n) (fun y => AlScan.Held H y ∨ y = n)) (l1 : L1 ≤ k) (l2 : L2 ≤ k) :
    ∃ a' : AlScan.St, a'.cnt = a.cnt ∧ AlScan.At s R N (k + 1) E a' ∧ InS w w' bs bl ob gb p1 p2 hb B off N cap (k + 1) s E a'.reg a'.spill a'.held := by
  have h0 : H r = none := by
    have := hF r (by omega)
    rw [hFr] at this
    cases hh : H r with
    | none => rfl
    | some g => rw [hh] at this; cases this
  have hm : ∀ j, j < r → H j ≠ none := fun j hj hc => by
    have := hF j (by omega)
    rw [hFm j hj, hc] at this
    cases this
  refine ⟨⟨AlScan.upd a.reg n (r : Int), AlScan.upd a.spill n (-1), AlScan.upd H r (some n), a.cnt⟩, rfl, ?_, v1, v2, L1 + 1, L2 + 1, AlScan.upd Fb r true, ?_, hH.of (fun y => (AlScan.held_upd_some h0 y).symm) (fun y => (AlScan.held_upd_some h0 y).symm), fun x hx => ?_, by omega, by omega⟩
  · refine h.aa.step h.o h.ft h.kk ?_
    rw [h.nE]
    subst eH
    exact .free r hr h0 hm
  · dsimp only
    rw [upd_same _ h.un.2]; exact hR
  · dsimp only
    by_cases e : x = r
    · subst e; simp [AlScan.upd_self]
    · rw [AlScan.upd_ne _ _ e, AlScan.upd_ne _ _ e]; exact hF x hx
theorem Rnd.full (h : Rnd s R N k n E a H) (eH : H = AlScan.exp s n a.held) (hF : ∀ r, r < 16 → Fb r = (H r).isSome) (hR16 : R ≤ 16) (hFm : ∀ j, j < R → Fb j = true) {t : Nat} (ht : AlScan.Held H t ∨ t = n) (hw : ∀ y, (AlScan.Held H y ∨ y = n) → ¬ AlScan.worse s y t) :
    (t = n ∧ AlScan.Step s R n a ⟨AlScan.upd a.reg n (-1), AlScan.upd a.spill n (a.cnt : Int), H, a.cnt + 1⟩) ∨
    (t ≠ n ∧ ∃ r, r < R ∧ H r = some t ∧ AlScan.Step s R n a ⟨AlScan.upd (AlScan.upd a.reg t (-1)) n (r : Int), AlScan.upd (AlScan.upd a.spill n (-1)) t (a.cnt : Int), AlScan.upd H r (some n), a.cnt + 1⟩) := by
  refine AlScan.step_full eH (fun x y hx hy hne => h.vv x y (h.lt2 x hx) (h.lt2 y hy) hne) (fun r hr hc => ?_) ht hw (fun r g hg => h.reg hg) h.new h.one
  have := hF r (by omega)
  rw [hFm r hr, hc] at this
  cases this
theorem fin_self (h : Rnd s R N k n E a H) (hF : ∀ r, r < 16 → Fb r = (H r).isSome) (hs : AlScan.Step s R n a ⟨AlScan.upd a.reg n (-1), AlScan.upd a.spill n (a.cnt : Int), H, a.cnt + 1⟩)
    (hR : RS w w' bs bl ob gb p1 p2 hb B off N cap s E (AlScan.upd a.reg n (-1)) (AlScan.upd a.spill n (a.cnt : Int)) Fb) (hH : HH w' B p1 p2 bl s v1 v2 L1 L2 (AlScan.Held H) (fun y => (AlScan.Held H y ∨ y = n) ∧ y ≠ n)) (l1 : L1 ≤ k) (l2 : L2 ≤ k) :
    ∃ a' : AlScan.St, a'.cnt = a.cnt + 1 ∧ AlScan.At s R N (k + 1) E a' ∧ InS w w' bs bl ob gb p1 p2 hb B off N cap (k + 1) s E a'.reg a'.spill a'.held := by
  refine ⟨_, rfl, h.aa.step h.o h.ft h.kk (by rw [h.nE]; exact hs), v1, v2, L1, L2, Fb, hR, hH.of (fun y => Iff.rfl) (fun y => ?_), hF, by omega, by omega⟩
  constructor
  · rintro ⟨h1 | h1, h2⟩
    · exact h1
    · exact absurd h1 h2
  · intro h1
    exact ⟨.inl h1, fun e => h.new (e ▸ h1)⟩
theorem fin_evict (h : Rnd s R N k n E a H) (hF : ∀ r, r < 16 → Fb r = (H r).isSome) {t r : Nat} (hne : t ≠ n) (hg : H r = some t) (hs : AlScan.Step s R n a ⟨AlScan.upd (AlScan.upd a.reg t (-1)) n (r : Int), AlScan.upd (AlScan.upd a.spill n (-1)) t (a.cnt : Int), AlScan.upd H r (some n), a.cnt + 1⟩)
    (hR : RS w w' bs bl ob gb p1 p2 hb B off N cap s E (AlScan.upd (AlScan.upd a.reg t (-1)) n (r : Int)) (AlScan.upd a.spill t (a.cnt : Int)) (AlScan.upd Fb r true)) (hH : HH w' B p1 p2 bl s v1 v2 L1 L2 (fun y => (AlScan.Held H y ∧ y ≠ t) ∨ y = n) (fun y => (AlScan.Held H y ∨ y = n) ∧ y ≠ t)) (l1 : L1 ≤ k + 1) (l2 : L2 ≤ k + 1) :
    ∃ a' : AlScan.St, a'.cnt = a.cnt + 1 ∧ AlScan.At s R N (k + 1) E a' ∧ InS w w' bs bl ob gb p1 p2 hb B off N cap (k + 1) s E a'.reg a'.spill a'.held := by
  have key : ∀ y, ((AlScan.Held H y ∧ y ≠ t) ∨ y = n) ↔ AlScan.Held (AlScan.upd H r (some n)) y := fun y => (AlScan.held_upd_swap h.one hg y).symm
  refine ⟨_, rfl, h.aa.step h.o h.ft h.kk (by rw [h.nE]; exact hs), v1, v2, L1, L2, AlScan.upd Fb r true, ?_, hH.of key (fun y => Iff.trans ?_ (key y)), fun x hx => ?_, l1, l2⟩
  · dsimp only
    rw [upd_same (i := n) (x := -1) a.spill h.un.2]; exact hR
  · constructor
    · rintro ⟨h1 | h1, h2⟩
      · exact .inl ⟨h1, h2⟩
      · exact .inr h1
    · rintro (⟨h1, h2⟩ | h1)
      · exact ⟨.inl h1, h2⟩
      · exact ⟨.inr h1, fun e => hne (by rw [← e, h1])⟩
  · dsimp only
    by_cases e : x = r
    · subst e; simp [AlScan.upd_self]
    · rw [AlScan.upd_ne _ _ e, AlScan.upd_ne _ _ e]; exact hF x hx
end
end Go.Proofs.Ytkejnhmhbmbhcaa.al
