/-
  alloc.holders: Pop takes the last off, Push puts one on.
-/
import Derived.Test.YtkejnhmhbmbhcaaAlK
import Derived.Deep.AppendLies
import Derived.Deep.RegionHeldLaw
import Derived.Test.YtkejnhmhbmbhcaaAlRuns
set_option maxHeartbeats 64000000
set_option maxRecDepth 1000000
set_option linter.unusedVariables false
set_option linter.unusedSimpArgs false
namespace Go.Proofs.Ytkejnhmhbmbhcaa.al
open Go Go.RowKit Go.BigFrame
open Go.Proofs.Ytkejnhmhbmbhcaa
theorem info3 : (Try.prog.info? 3).map (fun i => (i.zero, i.size, i.bytes)) = some (some (.int .i64 0), 1, 8) := by kernel_rfl
def blk (v : Value) : List Nat := v.ownBlock.toList
structure Hv (w : World) (B p : Nat) (v : Value) (L : Nat) (lf : Value) (D : Nat → Nat) : Prop where
  c0 : w.cell? ⟨p, 0, none⟩ = some v
  f0 : w.frozen? ⟨p, 0, none⟩ = false
  c1 : w.cell? ⟨p, 1, none⟩ = some lf
  row : w.ownsRow B 3 1 v L (ints D L)
  pB : p < B
theorem Hp.v {w : World} {B p L cap g : Nat} {lf : Value} {D : Nat → Nat} (h : Hp w B p L cap g lf D) : Hv w B p (.slice (some ⟨g, 0, none⟩) L cap) L lf D := ⟨h.c0, h.f0, h.c1, h.row, h.pB⟩
theorem Hv.p {w : World} {B p L : Nat} {v lf : Value} {D : Nat → Nat} (h : Hv w B p v L lf D) (hL : 0 < L) : ∃ g cap, v = .slice (some ⟨g, 0, none⟩) L cap ∧ Hp w B p L cap g lf D := by
  rcases h.row.2 with ⟨_, e⟩ | ⟨g, cap, cur, rfl, hx⟩
  · omega
  · exact ⟨g, cap, rfl, h.c0, h.f0, h.c1, h.row, h.pB⟩
theorem Hv.keep {w w' : World} {B p L : Nat} {v lf : Value} {D : Nat → Nat} {S : List Nat} (h : Hv w B p v L lf D) (ho : Only S w w') (hp : p ∉ S) (hS : ∀ g ∈ blk v, g ∉ S) : Hv w' B p v L lf D := by
  have hpl : p < w.heap.size := World.block_lt_of_cell? w ⟨p, 0, none⟩ h.c0
  have hb := ho.same p hpl hp
  refine ⟨(World.cell?_of_block hb).trans h.c0, (World.frozen?_of_block hb).trans h.f0, (World.cell?_of_block hb).trans h.c1, ?_, h.pB⟩
  refine ⟨h.row.1, ?_⟩
  rcases h.row.2 with hn | ⟨g, cap, cur, rfl, hbg, hg, rest⟩
  · exact .inl hn
  · exact .inr ⟨g, cap, cur, rfl, hbg, (ho.same g (block_lt hg) (hS g (by simp [blk, Value.ownBlock]))).trans hg, rest⟩
theorem Hv.drewN {w : World} {B p L : Nat} {v lf : Value} {D : Nat → Nat} (h : Hv w B p v L lf D) (j : Nat) : Hv (w.drewN j) B p v L lf D := ⟨h.c0, h.f0, h.c1, h.row, h.pB⟩
theorem Hp.cut {w : World} {B p L cap g : Nat} {lf : Value} {D : Nat → Nat} (h : Hp w B p (L + 1) cap g lf D) : Hp (w.setCell ⟨p, 0, none⟩ (.slice (some ⟨g, 0, none⟩) L cap)) B p L cap g lf D := by
  have hne : g ≠ p := by have := h.pB; have := h.gB.1; omega
  refine ⟨World.cell?_setCell_same _ _ _ h.c0, (World.frozen?_setCell _ _ _ _).trans h.f0, (World.cell?_setCell_other _ _ _ _ (by simp)).trans h.c1, ?_, h.pB⟩
  refine ⟨by simp [ints], ?_⟩
  rcases h.row.2 with ⟨h', _⟩ | ⟨g', cap', cur, h', hb, hg, hnc, hcm, hcs, htake⟩
  · simp at h'
  · simp only [Value.slice.injEq, Option.some.injEq, Addr.mk.injEq, and_true, true_and] at h'
    obtain ⟨rfl, rfl⟩ := h'
    refine .inr ⟨g, cap, cur, rfl, hb, ?_, by omega, hcm, hcs, ?_⟩
    · rw [← hg]
      simp only [World.setCell, Array.getElem?_modify]
      rw [if_neg (fun e => hne e.symm)]
    · have : cur.toList.take (L * 1) = (cur.toList.take ((L + 1) * 1)).take L := by rw [List.take_take]; congr 1; omega
      rw [this, htake]
      simp only [ints, List.range_succ, List.map_append]
      rw [List.take_left' (by simp)]
theorem pop53 (B p L cap g : Nat) (lf : Value) (D : Nat → Nat) (hL : L ≤ 1000) (w : World) (h : Hp w B p (L + 1) cap g lf D) :
    Calls Try.prog 53 #[ptr p] w fun e w' => e = .returned (.iface 3 (.int .i64 (D L : Int))) ∧ Hp w' B p L cap g lf D ∧ Only [p] w w' := by
  have c0 := h.c0
  have f0 := h.f0
  have c1 := h.cell (show L < L + 1 by omega)
  have hp : p < w.heap.size := World.block_lt_of_cell? w ⟨p, 0, none⟩ c0
  have hcap : (L : Int) + 1 ≤ (cap : Int) := by
    rcases h.row.2 with ⟨h', _⟩ | ⟨g', cap', cur, h', hb, hg, hnc, hcm, hcs, htake⟩
    · simp at h'
    · simp only [Value.slice.injEq, Option.some.injEq, Addr.mk.injEq, and_true, true_and] at h'
      obtain ⟨rfl, rfl⟩ := h'
      omega
  have e1 : ((L + 1 : Nat) : Int) - 1 = (L : Int) := by omega
  have HE := Lib.hid (show ∀ m, Hp ((w.drewN m).setCell ⟨p, 0, none⟩ (.slice (some ⟨g, 0, none⟩) L cap)) B p L cap g lf D from fun m => (h.drewN m).cut)
  clear h
  go_enter Try.func53, Try.ntmps53
  go_wp2_with fail
  go_region
  go_wp2_with fail
  go_region
  go_wp2_with fail
  go_ret
  exact ⟨rfl, (HE.out 0).drewN 2, (((Only.refl _ _).set _ (by simp)).drew).drew⟩
end Go.Proofs.Ytkejnhmhbmbhcaa.al
namespace Go.Proofs.Ytkejnhmhbmbhcaa.al
open Go Go.RowKit Go.BigFrame
open Go.Proofs.Ytkejnhmhbmbhcaa
theorem ints_snoc (D : Nat → Nat) (L x : Nat) : ints D L ++ [.int .i64 (x : Int)] = ints (AlScan.upd D L x) (L + 1) := by
  simp only [ints, List.range_succ, List.map_append, List.map_cons, List.map_nil, AlScan.upd, if_pos]
  congr 1
  apply List.map_congr_left
  intro k hk
  rw [if_neg (by have := List.mem_range.1 hk; omega)]
theorem tAss (x : Nat) : ∀ w, Sem.run Try.prog (Instr.typeAssert (.iface 3 (.int .i64 (x : Int))) 20 3 false) w = .ok (.int .i64 (x : Int)) w := fun w => by kernel_rfl
def NewRow (w : World) (v v' : Value) : Prop := ∃ g, v'.ownBlock = some g ∧ (v.ownBlock = some g ∨ w.heap.size ≤ g)
theorem Hv.pushed {B p L : Nat} {v lf : Value} {D : Nat → Nat} {x : Nat} {w w1 : World} (h : Hv w B p v L lf D) {o : Obj} {gg cap : Nat}
    (hown : w1.ownsRow B 3 1 (.slice (some ⟨gg, 0, none⟩) (L + 1) cap) (L + 1) (ints D L ++ [.int .i64 (x : Int)])) (hgrow : (w.alloc o).drew.grownBy w1 v.ownBlock) (hat : v.ownBlock = some gg ∨ gg = w.heap.size + 1) (hlt1 : gg < w1.heap.size) :
    ∃ v', Hv (w1.setCell ⟨p, 0, none⟩ (.slice (some ⟨gg, 0, none⟩) (L + 1) cap)) B p v' (L + 1) lf (AlScan.upd D L x) ∧ NewRow w v v' ∧ Only (p :: blk v) w (w1.setCell ⟨p, 0, none⟩ (.slice (some ⟨gg, 0, none⟩) (L + 1) cap)) := by
  have hp : p < w.heap.size := World.block_lt_of_cell? w ⟨p, 0, none⟩ h.c0
  have hpB := h.pB
  have hne : v.ownBlock ≠ some p := fun hc => by
    have := (h.row.lt p hc).1
    omega
  have hg : gg ≠ p := by
    rcases hat with e | e
    · exact fun hc => hne (hc ▸ e)
    · omega
  have hbp : w1.heap[p]? = w.heap[p]? := (hgrow.block p (by simp; omega) (Ne.symm hne)).trans (Below.heap_alloc w o p hp)
  refine ⟨_, ⟨World.cell?_setCell_same _ _ _ ((World.cell?_of_block hbp).trans h.c0), (World.frozen?_setCell _ _ _ _).trans ((World.frozen?_of_block hbp).trans h.f0), (World.cell?_setCell_other _ _ _ _ (by simp)).trans ((World.cell?_of_block hbp).trans h.c1), ?_, h.pB⟩, ⟨gg, rfl, ?_⟩, ?_⟩
  · rw [← ints_snoc]
    exact hown.kept (row := some p) ⟨rfl, rfl, rfl, by simp, fun k _ hk => heap_setCell_other w1 ⟨p, 0, none⟩ k _ (fun e => hk (by simp [e]))⟩ (.inr (by simp [Value.ownBlock, hg]))
  · rcases hat with e | e
    · exact .inl e
    · exact .inr (by omega)
  · have hs := hgrow.size
    refine ⟨hgrow.os, hgrow.tape, hgrow.output, by simp at hs ⊢; omega, fun c hc hn => ?_⟩
    simp only [List.mem_cons, not_or] at hn
    rw [heap_setCell_other w1 ⟨p, 0, none⟩ c _ (fun e => hn.1 (by simpa using e))]
    refine (hgrow.block c (by simp; omega) (fun e => hn.2 (by simp [blk, ← e]))).trans (Below.heap_alloc w o c hc)
theorem push54 (B p L : Nat) (v lf : Value) (D : Nat → Nat) (x : Nat) (hL : L ≤ 1000) (w : World) (h : Hv w B p v L lf D) (hB : B ≤ w.heap.size) :
    Calls Try.prog 54 #[ptr p, .iface 3 (.int .i64 (x : Int))] w fun e w' => e = .returned (.tuple #[]) ∧ ∃ v', Hv w' B p v' (L + 1) lf (AlScan.upd D L x) ∧ NewRow w v v' ∧ Only (p :: blk v) w w' := by
  obtain ⟨i0, hi0, hz0, hz1, hz2⟩ := info_parts info3
  have hta := tAss x
  have c0 := h.c0
  have f0 := h.f0
  have c1 := h.c1
  have hp : p < w.heap.size := World.block_lt_of_cell? w ⟨p, 0, none⟩ c0
  have hrow := h.row
  have hpB := h.pB
  have hne : v.ownBlock ≠ some p := fun hc => by
    have := (h.row.lt p hc).1
    omega
  have hlt := h.row.lt
  have HA := Lib.hid (show ∀ o : Obj, (w.alloc o).drew.cell? ⟨p, 0, none⟩ = some v ∧ (w.alloc o).drew.frozen? ⟨p, 0, none⟩ = false from fun o => ⟨(World.cell?_of_block (w' := (w.alloc o).drew) (Below.heap_alloc w o p hp)).trans c0, (World.frozen?_of_block (w' := (w.alloc o).drew) (Below.heap_alloc w o p hp)).trans f0⟩)
  have H := Lib.hid h
  clear h
  go_enter Try.func54, Try.ntmps54
  go_wp2_with fail
  go_region_law ((first
    | (refine step_append_lies _ (by rfl) _ _ 37 (by rfl) B 3 i0 _ 1 8 Try.underlying37 hi0 hz0 hz1 hz2 rfl (by omega) v L _ (by rfl) (hrow.alloc _)
        ⟨w.heap.size, 0, none⟩ 1 1 [.int .i64 (x : Int)] (by rfl) (by rfl) (World.news_of_block (cs := #[.int .i64 (x : Int)]) (t := 3) (fr := (0, 0)) (heap_alloc_new w _)) (by simp [Value.oneCell'])
        (by omega) (by unfold maxLen; omega) (by omega) (by simp; omega) (w.heap.size + 1) (by simp) ?_; intro gg cap w1 hown1 hgrow hat hlt1
       have q1 : w1.cell? ⟨p, 0, none⟩ = some v := (hgrow.cell_far ⟨p, 0, none⟩ (by simp; omega) (Ne.symm hne)).trans (HA.out _).1
       have q2 : w1.frozen? ⟨p, 0, none⟩ = false := (hgrow.frozen_far ⟨p, 0, none⟩ (by simp; omega) (Ne.symm hne)).trans (HA.out _).2)
    | (refine step_append_lies _ (by rfl) _ _ 37 (by rfl) B 3 i0 _ 1 8 Try.underlying37 hi0 hz0 hz1 hz2 rfl (by omega) v L _ (by rfl) ((hrow.alloc _).drew)
        ⟨w.heap.size, 0, none⟩ 1 1 [.int .i64 (x : Int)] (by rfl) (by rfl) (World.news_of_block (cs := #[.int .i64 (x : Int)]) (t := 3) (fr := (0, 0)) (heap_alloc_new w _)) (by simp [Value.oneCell'])
        (by omega) (by unfold maxLen; omega) (by omega) (by simp; omega) (w.heap.size + 1) (by simp) ?_; intro gg cap w1 hown1 hgrow hat hlt1
       have q1 : w1.cell? ⟨p, 0, none⟩ = some v := (hgrow.cell_far ⟨p, 0, none⟩ (by simp; omega) (Ne.symm hne)).trans (HA.out _).1
       have q2 : w1.frozen? ⟨p, 0, none⟩ = false := (hgrow.frozen_far ⟨p, 0, none⟩ (by simp; omega) (Ne.symm hne)).trans (HA.out _).2)))
  all_goals (go_wp2_with fail)
  all_goals (go_end0; exact ⟨rfl, H.out.pushed hown1 hgrow hat hlt1⟩)
end Go.Proofs.Ytkejnhmhbmbhcaa.al
namespace Go.Proofs.Ytkejnhmhbmbhcaa.al
open Go Go.RowKit Go.BigFrame
open Go.Proofs.Ytkejnhmhbmbhcaa
def HS (w : World) (B p : Nat) (v : Value) (L : Nat) (lf : Value) (lt : Nat → Nat → Prop) (S : Nat → Prop) : Prop :=
  ∃ D, Hv w B p v L lf D ∧ AlHp.Hok lt D L ∧ AlHp.Inj D L ∧ ∀ x, AlHp.Mem D L x ↔ S x
structure Gd (cl : Nat) (lt : Nat → Nat → Prop) (B bl bs off N cp : Nat) (s : AlScan.Sps) (p : Nat) : Prop where
  o : AlHp.Wk lt
  ls : LsC cl lt B bl bs off N cp s
  b1 : bl < B
  b2 : bs < B
  p1 : p ≠ bl
  p2 : p ≠ bs
theorem Gd.keep {cl : Nat} {lt : Nat → Nat → Prop} {B bl bs off N cp : Nat} {s : AlScan.Sps} {p : Nat} (G : Gd cl lt B bl bs off N cp s p) {w w' : World} {v lf : Value} {L : Nat} {D : Nat → Nat} (h : Hv w B p v L lf D) (hs : SpM w bl bs off N cp s) (ho : Only (p :: blk v) w w') : SpM w' bl bs off N cp s := by
  have h1 := G.b1
  have h2 := G.b2
  have h3 := G.p1
  have h4 := G.p2
  refine hs.keep ho ?_ ?_
  · simp only [List.mem_cons, not_or]
    refine ⟨fun e => h3 e.symm, fun hc => ?_⟩
    simp only [blk, Option.mem_toList, Option.mem_def] at hc
    have := h.row.lt _ hc
    omega
  · simp only [List.mem_cons, not_or]
    refine ⟨fun e => h4 e.symm, fun hc => ?_⟩
    simp only [blk, Option.mem_toList, Option.mem_def] at hc
    have := h.row.lt _ hc
    omega
theorem push22 {cl : Nat} {lt : Nat → Nat → Prop} {B bl bs off N cp : Nat} {s : AlScan.Sps} {p : Nat} (G : Gd cl lt B bl bs off N cp s p) (L : Nat) (v : Value) (S : Nat → Prop) (x : Nat) (hL : L ≤ 900) (hx : ¬ S x) (hSN : ∀ y, S y → y < N) (hxN : x < N) (w : World) (h : HS w B p v L (lsf cl bl) lt S) (hB : B ≤ w.heap.size) (hs : SpM w bl bs off N cp s) :
    Calls Try.prog 22 #[.iface 48 (ptr p), .iface 3 (.int .i64 (x : Int))] w fun e w' => e = .returned (.tuple #[]) ∧ ∃ v', HS w' B p v' (L + 1) (lsf cl bl) lt (fun y => S y ∨ y = x) ∧ NewRow w v v' ∧ Only (p :: blk v) w w' := by
  obtain ⟨D, hv, hok, hinj, hmem⟩ := h
  have hm1 := mPush p
  have hm2 := mLen p
  have e1 : ((L + 1 : Nat) : Int) - 1 = (L : Int) := by omega
  have CP := Lib.hid (push54 B p L v (lsf cl bl) D x (by omega) w hv hB)
  have hi : ∀ k, k < L + 1 → AlScan.upd D L x k < N := fun k hk => by
    by_cases e : k = L
    · rw [e, AlScan.upd_self]; exact hxN
    · rw [AlScan.upd_ne _ _ e]; exact hSN _ ((hmem _).1 ⟨k, by omega, rfl⟩)
  have HI := Lib.hid hi
  have HU := Lib.hid (AlHp.Up.snoc (lt := lt) x hok)
  have HG := Lib.hid G
  have HS' := Lib.hid hs
  have HV := Lib.hid hv
  have HX := Lib.hid (And.intro hinj (And.intro hmem hx))
  clear hv hok hinj hmem hx hSN hi G hs
  go_enter Try.func22, Try.ntmps22
  go_wp2_with (first
    | (go_at_call 54; (with_reducible refine CP.out.mono ?_); rintro ee w1 ⟨rfl, v', hv', hnr, ho⟩
       obtain ⟨g, cap, rfl, hq⟩ := hv'.p (by omega)
       have CL := Lib.hid (len51 _ _ _ _ _ _ _ _ hq)
       have CU := Lib.hid (up29 cl lt HG.out.o B bl bs off N cp s HG.out.ls ⟨HG.out.b1, HG.out.b2⟩ p (L + 1) cap g (L + 1) _ L (by omega) (Nat.le_refl _) (by omega) HI.out HU.out w1 hq (HG.out.keep HV.out HS'.out ho))
       have HN := Lib.hid (And.intro hnr ho)
       clear hv' hnr ho hq)
    | (go_at_call 51; (with_reducible refine CL.out.mono ?_); rintro ee w2 ⟨rfl, rfl⟩)
    | (go_at_call 29; (with_reducible refine CU.out.mono ?_); rintro ee w3 ⟨rfl, hE, hW⟩))
  go_end0
  obtain ⟨E, hE, hok, hex⟩ := hE
  obtain ⟨hnr, ho⟩ := HN.out
  obtain ⟨hinj, hmem, hx⟩ := HX.out
  refine ⟨rfl, _, ⟨E, hE.v, hok, hex.inj (AlHp.inj_snoc hinj (fun hc => hx ((hmem _).1 hc))), fun y => ?_⟩, hnr, ?_⟩
  · rw [hex.mem, AlHp.mem_snoc, hmem]
  · have hgx : ∀ c, c < w.heap.size → c ∉ p :: blk v → c ∉ [g] := fun c hc hn hc2 => by
      obtain ⟨g', e, h'⟩ := hnr
      simp only [Value.ownBlock, Option.some.injEq] at e
      simp only [List.mem_singleton] at hc2
      rcases h' with h' | h'
      · exact hn (List.mem_cons_of_mem _ (by simp [blk, h', ← e, hc2]))
      · omega
    exact ⟨hW.os.trans ho.os, hW.tape.trans ho.tape, hW.output.trans ho.output, Nat.le_trans ho.size hW.size, fun c hc hn => (hW.same c (Nat.lt_of_lt_of_le hc ho.size) (hgx c hc hn)).trans (ho.same c hc hn)⟩
theorem pop20 {cl : Nat} {lt : Nat → Nat → Prop} {B bl bs off N cp : Nat} {s : AlScan.Sps} {p : Nat} (G : Gd cl lt B bl bs off N cp s p) (M : Nat) (v : Value) (S : Nat → Prop) (hM : M ≤ 900) (hSN : ∀ y, S y → y < N) (w : World) (h : HS w B p v (M + 1) (lsf cl bl) lt S) (hs : SpM w bl bs off N cp s) :
    Calls Try.prog 20 #[.iface 48 (ptr p)] w fun e w' => ∃ (t : Nat) (v' : Value), e = .returned (.iface 3 (.int .i64 (t : Int))) ∧ S t ∧ (∀ y, S y → ¬ lt y t) ∧ HS w' B p v' M (lsf cl bl) lt (fun y => S y ∧ y ≠ t) ∧ v'.ownBlock = v.ownBlock ∧ Only (p :: blk v) w w' := by
  obtain ⟨D, hv, hok, hinj, hmem⟩ := h
  obtain ⟨g, cap, rfl, hp⟩ := hv.p (by omega)
  have hm1 := mLen p
  have hm2 := mSwap p
  have hm3 := mPop p
  have e1 : ((M + 1 : Nat) : Int) - 1 = (M : Int) := by omega
  have CL := Lib.hid (len51 _ _ _ _ _ _ _ _ hp)
  have CS0 : Calls Try.prog 55 #[ptr p, .int .i64 0, .int .i64 (M : Int)] w _ := swap55 B p (M + 1) cap g (lsf cl bl) D 0 M (by omega) (by omega) w hp
  have CS := Lib.hid CS0
  have hi : ∀ k, k < M + 1 → AlHp.sw D 0 M k < N := fun k hk => by
    have : AlHp.Mem D (M + 1) (AlHp.sw D 0 M k) := (AlHp.sw_mem D (by omega) (by omega) _).1 ⟨k, hk, rfl⟩
    exact hSN _ ((hmem _).1 this)
  have HI := Lib.hid hi
  have HG := Lib.hid G
  have HS' := Lib.hid hs
  have HV := Lib.hid hv
  have HX := Lib.hid (And.intro hok (And.intro hinj hmem))
  clear hv hok hinj hmem hSN hi G hs hp CS0
  go_enter Try.func20, Try.ntmps20
  go_wp2_with (first
    | (go_at_call 51; (with_reducible refine CL.out.mono ?_); rintro ee w2 ⟨rfl, rfl⟩)
    | (go_at_call 55; (with_reducible refine CS.out.mono ?_); rintro ee w3 ⟨rfl, hS, hW⟩
       have CD0 : Calls Try.prog 26 #[.iface 48 (ptr p), .int .i64 0, .int .i64 (M : Int)] w3 _ := down26 cl lt HG.out.o B bl bs off N cp s HG.out.ls ⟨HG.out.b1, HG.out.b2⟩ p (M + 1) cap g M _ 0 (by omega) (by omega) (by omega) HI.out (AlHp.Dn.pop HX.out.1) w3 hS (HG.out.keep HV.out HS'.out (hW.mono (by simp [blk, Value.ownBlock])))
       have CD := Lib.hid CD0
       have HW := Lib.hid hW
       clear CD0 hS hW)
    | (go_at_call 26; (with_reducible refine CD.out.mono ?_); rintro ee w4 ⟨E, i, rfl, hi, hE, hk, hk2, hx, hsm, hW2⟩
       have CP := Lib.hid (pop53 B p M cap g (lsf cl bl) E (by omega) w4 hE)
       have HE := Lib.hid (And.intro hE (And.intro hk (And.intro hx hW2)))
       clear hE hk hk2 hx hsm hW2 hi)
    | (go_at_call 53; (with_reducible refine CP.out.mono ?_); rintro ee w5 ⟨rfl, hF, hW3⟩))
  go_ret
  obtain ⟨hE, hk, hx, hW2⟩ := HE.out
  obtain ⟨hok, hinj, hmem⟩ := HX.out
  have e : E M = D 0 := by
    rw [hx.out M (Nat.le_refl _)]
    by_cases h0 : M = 0
    · rw [h0, AlHp.sw_l]
    · exact AlHp.sw_r D h0
  have hgone := AlHp.gone (i := 0) (by omega) hinj hx.mem hx.inj
  refine ⟨D 0, _, by rw [← e]; rfl, (hmem _).1 ⟨0, by omega, rfl⟩, fun y hy => ?_, ⟨E, hF.v, fun k h1 h2 => hk k h1 h2 (by omega), hgone.2, fun y => ?_⟩, rfl, ?_⟩
  · obtain ⟨k, hk', ek⟩ := (hmem y).2 hy
    rw [← ek]; exact hok.least HG.out.o k hk'
  · rw [hgone.1 y, hmem]
  · exact ((HW.out.trans hW2).mono (by simp [blk, Value.ownBlock])).trans (hW3.mono (by simp))
end Go.Proofs.Ytkejnhmhbmbhcaa.al
namespace Go.Proofs.Ytkejnhmhbmbhcaa.al
open Go Go.RowKit Go.BigFrame
open Go.Proofs.Ytkejnhmhbmbhcaa
def RmO (lt : Nat → Nat → Prop) (B p : Nat) (v lf : Value) (D : Nat → Nat) (M i : Nat) (S : Nat → Prop) (w : World) (e : Ending) (w' : World) : Prop :=
  e = .returned (.iface 3 (.int .i64 (D i : Int))) ∧ ∃ v', HS w' B p v' M lf lt (fun y => S y ∧ y ≠ D i) ∧ v'.ownBlock = v.ownBlock ∧ Only (p :: blk v) w w'
theorem RmO.of {lt : Nat → Nat → Prop} {B p cap g : Nat} {lf : Value} {D : Nat → Nat} {M i : Nat} {S : Nat → Prop} {w w' : World} {E : Nat → Nat} (hi : i < M + 1) (hinj : AlHp.Inj D (M + 1)) (hmem : ∀ x, AlHp.Mem D (M + 1) x ↔ S x)
    (hx : Ex (AlHp.sw D i M) E M) (hok : AlHp.Hok lt E M) (hp : Hp w' B p M cap g lf E) (ho : Only [p, g] w w') {cap0 L0 : Nat} :
    RmO lt B p (.slice (some ⟨g, 0, none⟩) L0 cap0) lf D M i S w (.returned (.iface 3 (.int .i64 (E M : Int)))) w' := by
  have e : E M = D i := by
    rw [hx.out M (Nat.le_refl _)]
    by_cases h0 : M = i
    · rw [h0, AlHp.sw_l]
    · exact AlHp.sw_r D h0
  have hgone := AlHp.gone hi hinj hx.mem hx.inj
  refine ⟨by rw [e], _, ⟨E, hp.v, hok, hgone.2, fun y => ?_⟩, rfl, ho.mono (by simp [blk, Value.ownBlock])⟩
  rw [hgone.1 y, hmem]
theorem sw_same (D : Nat → Nat) (i : Nat) : AlHp.sw D i i = D := by
  funext k
  unfold AlHp.sw
  split
  · rename_i h; rw [h]
  · rfl
theorem remove28 {cl : Nat} {lt : Nat → Nat → Prop} {B bl bs off N cp : Nat} {s : AlScan.Sps} {p : Nat} (G : Gd cl lt B bl bs off N cp s p) (M i : Nat) (hi : i < M + 1) (v : Value) (D : Nat → Nat) (S : Nat → Prop) (hM : M ≤ 900) (hSN : ∀ y, S y → y < N) (w : World) (hv : Hv w B p v (M + 1) (lsf cl bl) D) (hok : AlHp.Hok lt D (M + 1)) (hinj : AlHp.Inj D (M + 1)) (hmem : ∀ x, AlHp.Mem D (M + 1) x ↔ S x) (hs : SpM w bl bs off N cp s) :
    Calls Try.prog 28 #[.iface 48 (ptr p), .int .i64 (i : Int)] w (RmO lt B p v (lsf cl bl) D M i S w) := by
  obtain ⟨g, cap, rfl, hp⟩ := hv.p (by omega)
  have hm1 := mLen p
  have hm2 := mSwap p
  have hm3 := mPop p
  have e1 : ((M + 1 : Nat) : Int) - 1 = (M : Int) := by omega
  have CL := Lib.hid (len51 _ _ _ _ _ _ _ _ hp)
  by_cases hiM : i = M
  · subst hiM
    have CP := Lib.hid (pop53 B p i cap g (lsf cl bl) D (by omega) w hp)
    have HX := Lib.hid (And.intro hok (And.intro hinj hmem))
    clear hv hok hinj hmem hSN G hs hp
    go_enter Try.func28, Try.ntmps28
    go_wp2_with (first
      | (go_at_call 51; (with_reducible refine CL.out.mono ?_); rintro ee w2 ⟨rfl, rfl⟩)
      | (go_at_call 53; (with_reducible refine CP.out.mono ?_); rintro ee w5 ⟨rfl, hF, hW3⟩))
    go_ret
    obtain ⟨hok, hinj, hmem⟩ := HX.out
    exact RmO.of (by omega) hinj hmem (by rw [sw_same]; exact Ex.refl _ _) hok.cut hF (hW3.mono (by simp))
  · have hlt : i < M := by omega
    have hne : ((M : Int) == (i : Int)) = false := by simp; omega
    have CS := Lib.hid (swap55 B p (M + 1) cap g (lsf cl bl) D i M (by omega) (by omega) w hp)
    have hi2 : ∀ k, k < M + 1 → AlHp.sw D i M k < N := fun k hk => by
      have : AlHp.Mem D (M + 1) (AlHp.sw D i M k) := (AlHp.sw_mem D (by omega) (by omega) _).1 ⟨k, hk, rfl⟩
      exact hSN _ ((hmem _).1 this)
    have HI := Lib.hid hi2
    have HG := Lib.hid G
    have HS' := Lib.hid hs
    have HV := Lib.hid hv
    have HX := Lib.hid (And.intro hok (And.intro hinj hmem))
    have HDn := Lib.hid (AlHp.Dn.rem G.o hlt hok)
    clear hv hok hinj hmem hSN hi2 G hs hp
    go_enter Try.func28, Try.ntmps28
    go_wp2_with (first
      | (go_at_call 51; (with_reducible refine CL.out.mono ?_); rintro ee w2 ⟨rfl, rfl⟩)
      | (go_at_call 55; (with_reducible refine CS.out.mono ?_); rintro ee w3 ⟨rfl, hS, hW⟩
         have CD := Lib.hid (down26 cl lt HG.out.o B bl bs off N cp s HG.out.ls ⟨HG.out.b1, HG.out.b2⟩ p (M + 1) cap g M _ i (by omega) (by omega) (by omega) HI.out HDn.out w3 hS (HG.out.keep HV.out HS'.out (hW.mono (by simp [blk, Value.ownBlock]))))
         have HW := Lib.hid hW
         clear hS hW))
    (with_reducible refine CD.out.mono ?_)
    rintro ee w4 ⟨E, i', rfl, hi', hE, hk, hk2, hx, hsm, hW2⟩
    have HW2 := Lib.hid hW2
    have HX2 := Lib.hid hx
    rcases Nat.lt_or_ge i i' with hc | hc
    · have CP := Lib.hid (pop53 B p M cap g (lsf cl bl) E (by omega) w4 hE)
      have HE := Lib.hid (hk2 (by omega))
      clear hE hk hk2 hx hsm hW2
      go_wp2_with (go_at_call 53; (with_reducible refine CP.out.mono ?_); rintro ee w5 ⟨rfl, hF, hW3⟩)
      go_ret
      obtain ⟨hok, hinj, hmem⟩ := HX.out
      exact RmO.of (by omega) hinj hmem HX2.out HE.out hF (((HW.out.trans HW2.out).mono (by simp)).trans (hW3.mono (by simp)))
    · have hEs : E = AlHp.sw D i M := hsm (by omega)
      have hcf : decide (i < i') = false := by simp; omega
      have hup : AlHp.Up lt E M i := ⟨fun k h1 h2 h3 => hk k h1 h2 h3, fun h0 k h1 h2 h3 => by rw [hEs]; exact HDn.out.b k h1 h2 h3 h0⟩
      have CU := Lib.hid (up29 cl lt HG.out.o B bl bs off N cp s HG.out.ls ⟨HG.out.b1, HG.out.b2⟩ p (M + 1) cap g M _ i hlt (by omega) (by omega) (fun k hk => by rw [hEs]; exact HI.out k hk) hup w4 hE (HG.out.keep HV.out HS'.out ((HW.out.trans HW2.out).mono (by simp [blk, Value.ownBlock]))))
      clear hE hk hk2 hx hsm hW2 hup hEs
      go_wp2_with (first
        | (go_at_call 29; (with_reducible refine CU.out.mono ?_); rintro ee w6 ⟨rfl, hFE, hW4⟩
           obtain ⟨F, hF0, hFok, hFx⟩ := hFE
           have CP := Lib.hid (pop53 B p M cap g (lsf cl bl) F (by omega) w6 hF0)
           have HF := Lib.hid (And.intro hFok (And.intro hFx hW4))
           clear hF0 hFok hFx hW4)
        | (go_at_call 53; (with_reducible refine CP.out.mono ?_); rintro ee w5 ⟨rfl, hF, hW3⟩))
      go_ret
      obtain ⟨hok, hinj, hmem⟩ := HX.out
      obtain ⟨hFok, hFx, hW4⟩ := HF.out
      exact RmO.of (by omega) hinj hmem (HX2.out.trans hFx) hFok hF ((((HW.out.trans HW2.out).trans hW4).mono (by simp)).trans (hW3.mono (by simp)))
end Go.Proofs.Ytkejnhmhbmbhcaa.al
namespace Go.Proofs.Ytkejnhmhbmbhcaa.al
open Go Go.RowKit Go.BigFrame
open Go.Proofs.Ytkejnhmhbmbhcaa
theorem index27 (B p L cap g : Nat) (lf : Value) (D : Nat → Nat) (x : Nat) (hL : L ≤ 1000) (hx : AlHp.Mem D L x) (w : World) (h : Hp w B p L cap g lf D) :
    Calls Try.prog 27 #[.slice (some ⟨g, 0, none⟩) L cap, .int .i64 (x : Int)] w fun e w' => ∃ i : Nat, i < L ∧ D i = x ∧ e = .returned (.int .i64 (i : Int)) ∧ w' = w := by
  have H := Lib.hid h
  have HX := Lib.hid hx
  clear h hx
  go_enter Try.func27, Try.ntmps27
  go_wp2_with fail
  go_loopw [8] (fun u wq => ∃ k : Nat, k ≤ L ∧ u = .int .i64 (k : Int) ∧ Hid (wq = w ∧ ∀ j, j < k → D j ≠ x)) (fun u _ => L - (intOf u).toNat)
  case atStart => exact ⟨0, by omega, rfl, Lib.hid ⟨rfl, fun j hj => by omega⟩⟩
  case round =>
    obtain ⟨k, hk, rfl, hM⟩ := hrel
    obtain ⟨rfl, hn⟩ := hM.out
    have hkL : k < L := by
      obtain ⟨i, hi, e⟩ := HX.out
      rcases Nat.lt_or_ge i k with hc | hc
      · exact absurd e (hn i hc)
      · omega
    have b1 : (k : Int) < (L : Int) := by omega
    have c1 := H.out.cell hkL
    by_cases hd : D k = x
    · have hE : ((x : Int) == (D k : Int)) = true := by simp [hd]
      have HD := Lib.hid hd
      clear hd hM hn
      go_wp2_with fail
      go_ret
      exact ⟨k, hkL, HD.out, rfl, rfl⟩
    · have hE : ((x : Int) == (D k : Int)) = false := by simp; omega
      have HD := Lib.hid hd
      have HN := Lib.hid hn
      clear hd hM hn
      go_wp2_with fail
      refine ⟨⟨k + 1, hkL, by first | rfl | simp, Lib.hid ⟨by first | rfl | trivial, fun j hj => ?_⟩⟩, by simp [intOf]; omega⟩
      by_cases e : j = k
      · rw [e]; exact HD.out
      · exact HN.out j (by omega)
theorem index23 (hb R cp : Nat) (F : Nat → Bool) (hR : R ≤ 1000) (w : World) (h : ∀ k, k < R → w.cell? ⟨hb, k, none⟩ = some (.bool (F k))) :
    Calls Try.prog 23 #[.slice (some ⟨hb, 0, none⟩) R cp, .bool false] w fun e w' => ((∃ r, r < R ∧ F r = false ∧ (∀ k, k < r → F k = true) ∧ e = .returned (.int .i64 (r : Int))) ∨ ((∀ k, k < R → F k = true) ∧ e = .returned (.int .i64 (-1)))) ∧ w' = w := by
  have H := Lib.hid h
  clear h
  go_enter Try.func23, Try.ntmps23
  go_wp2_with fail
  go_loopw [8] (fun u wq => ∃ k : Nat, k ≤ R ∧ u = .int .i64 (k : Int) ∧ Hid (wq = w ∧ ∀ j, j < k → F j = true)) (fun u _ => R - (intOf u).toNat)
  case atStart => exact ⟨0, by omega, rfl, Lib.hid ⟨rfl, fun j hj => by omega⟩⟩
  case round =>
    obtain ⟨k, hk, rfl, hM⟩ := hrel
    obtain ⟨rfl, hn⟩ := hM.out
    have HN := Lib.hid hn
    clear hM hn
    by_cases hkL : k < R
    · have b1 : (k : Int) < (R : Int) := by omega
      have c1 := H.out k hkL
      cases hF : F k with
      | false =>
        rw [hF] at c1
        have HF := Lib.hid hF
        clear hF
        go_wp2_with fail
        go_ret
        exact ⟨.inl ⟨k, hkL, HF.out, HN.out, rfl⟩, rfl⟩
      | true =>
        rw [hF] at c1
        have HF := Lib.hid hF
        clear hF
        go_wp2_with fail
        refine ⟨⟨k + 1, hkL, by first | rfl | simp, Lib.hid ⟨by first | rfl | trivial, fun j hj => ?_⟩⟩, by simp [intOf]; omega⟩
        by_cases e : j = k
        · rw [e]; exact HF.out
        · exact HN.out j (by omega)
    · have b1 : ¬ (k : Int) < (R : Int) := by omega
      have ek : k = R := by omega
      have HK := Lib.hid ek
      clear ek
      go_wp2_with fail
      go_ret
      exact ⟨.inr ⟨fun j hj => HN.out j (by have := HK.out; omega), rfl⟩, rfl⟩
theorem drop21 {cl : Nat} {lt : Nat → Nat → Prop} {B bl bs off N cp : Nat} {s : AlScan.Sps} {p : Nat} (G : Gd cl lt B bl bs off N cp s p) (M x : Nat) (v : Value) (S : Nat → Prop) (hM : M ≤ 900) (hx : S x) (hSN : ∀ y, S y → y < N) (w : World) (h : HS w B p v (M + 1) (lsf cl bl) lt S) (hs : SpM w bl bs off N cp s) :
    Calls Try.prog 21 #[ptr p, .int .i64 (x : Int)] w fun e w' => e = .returned (.tuple #[]) ∧ ∃ v', HS w' B p v' M (lsf cl bl) lt (fun y => S y ∧ y ≠ x) ∧ v'.ownBlock = v.ownBlock ∧ Only (p :: blk v) w w' := by
  obtain ⟨D, hv, hok, hinj, hmem⟩ := h
  obtain ⟨g, cap, rfl, hp⟩ := hv.p (by omega)
  have c0 := hp.c0
  have hpl : p < w.heap.size := World.block_lt_of_cell? w ⟨p, 0, none⟩ c0
  have CI := Lib.hid (index27 B p (M + 1) cap g (lsf cl bl) D x (by omega) ((hmem x).2 hx) w hp)
  have CR := Lib.hid (fun i hi => remove28 G M i hi _ D S hM hSN w hv hok hinj hmem hs)
  clear hv hok hinj hmem hSN G hs hp hx
  go_enter Try.func21, Try.ntmps21
  go_wp2_with (go_at_call 27; (with_reducible refine CI.out.mono ?_); rintro ee w2 ⟨i, hi, hDi, rfl, rfl⟩; have HI := Lib.hid (And.intro hi hDi); clear hi hDi)
  all_goals (try (with_reducible refine (CR.out _ HI.out.1).mono ?_))
  rintro ee w3 ⟨rfl, v', hv', hnb, ho⟩
  go_wp2_with fail
  go_end0
  have e := HI.out.2
  rw [e] at hv'
  exact ⟨rfl, v', hv', hnb, ho⟩
end Go.Proofs.Ytkejnhmhbmbhcaa.al
