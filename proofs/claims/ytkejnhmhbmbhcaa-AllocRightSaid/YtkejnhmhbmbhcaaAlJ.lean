/-
  alloc.holders: a heap in memory, and its methods.
-/
import Derived.Test.YtkejnhmhbmbhcaaAlD
import Derived.Test.YtkejnhmhbmbhcaaAlRuns
import Derived.Laws.OwnMore
import Derived.Maps.AppendAt
import Derived.IntWalk
set_option maxHeartbeats 64000000
set_option maxRecDepth 1000000
set_option linter.unusedVariables false
set_option linter.unusedSimpArgs false
namespace Go.Proofs.Ytkejnhmhbmbhcaa.al
open Go Go.RowKit Go.BigFrame
open Go.Proofs.Ytkejnhmhbmbhcaa
abbrev ints (D : Nat → Nat) (L : Nat) : List Value := (List.range L).map fun i => Value.int .i64 (D i : Int)
structure Hp (w : World) (B p L cap g : Nat) (lf : Value) (D : Nat → Nat) : Prop where
  c0 : w.cell? ⟨p, 0, none⟩ = some (.slice (some ⟨g, 0, none⟩) L cap)
  f0 : w.frozen? ⟨p, 0, none⟩ = false
  c1 : w.cell? ⟨p, 1, none⟩ = some lf
  row : w.ownsRow B 3 1 (.slice (some ⟨g, 0, none⟩) L cap) L (ints D L)
  pB : p < B
theorem Hp.cell {w : World} {B p L cap g : Nat} {lf : Value} {D : Nat → Nat} (h : Hp w B p L cap g lf D) {i : Nat} (hi : i < L) : w.cell? ⟨g, i, none⟩ = some (.int .i64 (D i : Int)) := by
  rw [h.row.cellAt i (by omega)]; simp [ints, hi]
theorem Hp.froz {w : World} {B p L cap g : Nat} {lf : Value} {D : Nat → Nat} (h : Hp w B p L cap g lf D) (i : Nat) : w.frozen? ⟨g, i, none⟩ = false := h.row.frozenAt i
theorem Hp.drewN {w : World} {B p L cap g : Nat} {lf : Value} {D : Nat → Nat} (h : Hp w B p L cap g lf D) (j : Nat) : Hp (w.drewN j) B p L cap g lf D := ⟨h.c0, h.f0, h.c1, h.row, h.pB⟩
theorem Hp.gB {w : World} {B p L cap g : Nat} {lf : Value} {D : Nat → Nat} (h : Hp w B p L cap g lf D) : B ≤ g ∧ g < w.heap.size := h.row.lt g rfl
theorem ints_set (D : Nat → Nat) (L i v : Nat) : (ints D L).set i (.int .i64 (v : Int)) = ints (AlScan.upd D i v) L := by
  apply List.ext_getElem?
  intro k
  by_cases hk : i = k
  · subst hk
    by_cases hi : i < L
    · rw [List.getElem?_set_self (by simpa [ints] using hi)]
      simp [ints, hi, AlScan.upd]
    · rw [List.getElem?_eq_none (by simp [ints]; omega), List.getElem?_eq_none (by simp [ints]; omega)]
  · rw [List.getElem?_set_ne hk]
    by_cases hi : k < L
    · simp [ints, hi, AlScan.upd, Ne.symm hk]
    · rw [List.getElem?_eq_none (by simp [ints]; omega), List.getElem?_eq_none (by simp [ints]; omega)]
theorem Hp.set {w : World} {B p L cap g : Nat} {lf : Value} {D : Nat → Nat} (h : Hp w B p L cap g lf D) (i v : Nat) : Hp (w.setCell ⟨g, i, none⟩ (.int .i64 (v : Int))) B p L cap g lf (AlScan.upd D i v) := by
  have hne : p ≠ g := by have := h.pB; have := h.gB.1; omega
  have hs := h.row.stored i (.int .i64 (v : Int))
  rw [ints_set] at hs
  refine ⟨(World.cell?_setCell_other _ _ _ _ (by simp [hne])).trans h.c0, (World.frozen?_setCell _ _ _ _).trans h.f0, (World.cell?_setCell_other _ _ _ _ (by simp [hne])).trans h.c1, hs.1, h.pB⟩
theorem len51 (B p L cap g : Nat) (lf : Value) (D : Nat → Nat) (w : World) (h : Hp w B p L cap g lf D) :
    Calls Try.prog 51 #[ptr p] w fun e w' => e = .returned (.int .i64 (L : Int)) ∧ w' = w := by
  have c0 := h.c0
  have hp : p < w.heap.size := World.block_lt_of_cell? w ⟨p, 0, none⟩ c0
  clear h
  go_enter Try.func51, Try.ntmps51
  go_wp2_with fail
  go_ret
  exact ⟨rfl, rfl⟩
theorem swap55 (B p L cap g : Nat) (lf : Value) (D : Nat → Nat) (i j : Nat) (hi : i < L) (hj : j < L) (w : World) (h : Hp w B p L cap g lf D) :
    Calls Try.prog 55 #[ptr p, .int .i64 (i : Int), .int .i64 (j : Int)] w fun e w' => e = .returned (.tuple #[]) ∧ Hp w' B p L cap g lf (AlHp.sw D i j) ∧ Only [g] w w' := by
  have H := Lib.hid h
  have c0 := h.c0
  have c1 := h.cell hi
  have c2 := h.cell hj
  have f1 := h.froz i
  have f2 := h.froz j
  have b1 : (i : Int) < (L : Int) := by omega
  have b2 : (j : Int) < (L : Int) := by omega
  have hp : p < w.heap.size := World.block_lt_of_cell? w ⟨p, 0, none⟩ c0
  clear h
  have hend : Hp (((w.setCell ⟨g, i, none⟩ (.int .i64 (D j : Int))).setCell ⟨g, j, none⟩ (.int .i64 (D i : Int))).drew) B p L cap g lf (AlHp.sw D i j) ∧ Only [g] w (((w.setCell ⟨g, i, none⟩ (.int .i64 (D j : Int))).setCell ⟨g, j, none⟩ (.int .i64 (D i : Int))).drew) := by
    refine ⟨?_, (((Only.refl _ _).set _ (by simp)).set _ (by simp)).drew⟩
    have := (((H.out.set i (D j)).set j (D i)).drewN 1)
    have e : AlScan.upd (AlScan.upd D i (D j)) j (D i) = AlHp.sw D i j := by
      funext x
      unfold AlScan.upd AlHp.sw
      by_cases x1 : x = i
      · by_cases x2 : x = j
        · subst x1; subst x2; simp
        · simp only [if_neg x2, if_pos x1]
      · by_cases x2 : x = j
        · simp only [if_pos x2, if_neg x1]
        · simp only [if_neg x2, if_neg x1]
    rw [e] at this
    exact this
  have HE := Lib.hid hend; clear hend H
  by_cases hij : i = j
  · subst hij
    have c3 : (w.setCell ⟨g, i, none⟩ (.int .i64 (D i : Int))).cell? ⟨g, i, none⟩ = some (.int .i64 (D i : Int)) := World.cell?_setCell_same _ _ _ c1
    go_enter Try.func55, Try.ntmps55
    go_wp2_with fail
    go_region
    go_end0
    exact ⟨rfl, HE.out⟩
  · go_enter Try.func55, Try.ntmps55
    go_wp2_with fail
    go_region
    go_end0
    exact ⟨rfl, HE.out⟩
theorem less52a (B p L cap g bl bs off N cp : Nat) (s : AlScan.Sps) (D : Nat → Nat) (i j : Nat) (hi : i < L) (hj : j < L) (hD : ∀ k, k < L → D k < N) (w : World) (h : Hp w B p L cap g (.func (.func 18) #[] #[ptr bl]) D) (hs : SpM w bl bs off N cp s) :
    Calls Try.prog 52 #[ptr p, .int .i64 (i : Int), .int .i64 (j : Int)] w fun e w' => e = .returned (.bool (decide (s.T (D i) < s.T (D j)))) ∧ ∃ m, w' = w.drewN m := by
  have c0 := h.c0
  have cf := h.c1
  have c1 := h.cell hi
  have c2 := h.cell hj
  have b1 : (i : Int) < (L : Int) := by omega
  have b2 : (j : Int) < (L : Int) := by omega
  have hp : p < w.heap.size := World.block_lt_of_cell? w ⟨p, 0, none⟩ c0
  have HC := Lib.hid (fun m : Nat => less18 bl bs off N cp s (D i) (D j) (hD i hi) (hD j hj) (w.drewN m) (hs.drewN m))
  obtain ⟨tv, htv⟩ : ∃ tv, decide (s.T (D i) < s.T (D j)) = tv := ⟨_, rfl⟩
  simp only [htv] at HC ⊢
  clear h hs hD
  go_enter Try.func52, Try.ntmps52
  go_wp2_with fail
  go_quiet ((go_at_call 18; refine Calls.quiet_of (HC.out _)))
  go_wp2_with fail
  go_ret
  exact ⟨rfl, _, rfl⟩
theorem mLen (p : Nat) : ∀ w, (method 191 48 (ptr p) "Len").run Try.prog w = .ok (51, ptr p) w := fun _ => by kernel_rfl
theorem mLess (p : Nat) : ∀ w, (method 191 48 (ptr p) "Less").run Try.prog w = .ok (52, ptr p) w := fun _ => by kernel_rfl
theorem mPop (p : Nat) : ∀ w, (method 191 48 (ptr p) "Pop").run Try.prog w = .ok (53, ptr p) w := fun _ => by kernel_rfl
theorem mPush (p : Nat) : ∀ w, (method 191 48 (ptr p) "Push").run Try.prog w = .ok (54, ptr p) w := fun _ => by kernel_rfl
theorem mSwap (p : Nat) : ∀ w, (method 191 48 (ptr p) "Swap").run Try.prog w = .ok (55, ptr p) w := fun _ => by kernel_rfl
instance (s : AlScan.Sps) (a b : Nat) : Decidable (AlScan.worse s a b) := by unfold AlScan.worse; infer_instance
def later (s : AlScan.Sps) (a b : Nat) : Prop := s.T a < s.T b
theorem worse_wk (s : AlScan.Sps) : AlHp.Wk (AlScan.worse s) := ⟨fun x h => by unfold AlScan.worse at h; omega, fun x y z h h' => by unfold AlScan.worse at *; omega, fun x y z h h' => by unfold AlScan.worse at *; omega⟩
theorem later_wk (s : AlScan.Sps) : AlHp.Wk (later s) := ⟨fun x h => by unfold later at h; omega, fun x y z h h' => by unfold later at *; omega, fun x y z h h' => by unfold later at *; omega⟩
abbrev lsf (cl bl : Nat) : Value := .func (.func cl) #[] #[ptr bl]
theorem less52b (B p L cap g bl bs off N cp : Nat) (s : AlScan.Sps) (D : Nat → Nat) (i j : Nat) (hi : i < L) (hj : j < L) (hD : ∀ k, k < L → D k < N) (w : World) (h : Hp w B p L cap g (lsf 19 bl) D) (hs : SpM w bl bs off N cp s) :
    Calls Try.prog 52 #[ptr p, .int .i64 (i : Int), .int .i64 (j : Int)] w fun e w' => e = .returned (.bool (decide (AlScan.worse s (D i) (D j)))) ∧ ∃ m, w' = w.drewN m := by
  have c0 := h.c0
  have cf := h.c1
  have c1 := h.cell hi
  have c2 := h.cell hj
  have b1 : (i : Int) < (L : Int) := by omega
  have b2 : (j : Int) < (L : Int) := by omega
  have hp : p < w.heap.size := World.block_lt_of_cell? w ⟨p, 0, none⟩ c0
  obtain ⟨tv, htv⟩ : ∃ tv, decide (AlScan.worse s (D i) (D j)) = tv := ⟨_, rfl⟩
  have HC : Hid (∀ m, Calls Try.prog 19 #[.int .i64 (D i : Int), .int .i64 (D j : Int), ptr bl] (w.drewN m) fun e w' => e = .returned (.bool tv) ∧ ∃ m', w' = (w.drewN m).drewN m') := Lib.hid (fun m => (less19 bl bs off N cp s (D i) (D j) (hD i hi) (hD j hj) (w.drewN m) (hs.drewN m)).mono (by
    rintro e w1 ⟨⟨b, rfl, hb⟩, m', rfl⟩
    refine ⟨?_, m', rfl⟩
    rw [← htv]
    congr 2
    exact Bool.eq_iff_iff.2 (by rw [hb]; simp)))
  rw [htv]
  clear h hs hD htv
  go_enter Try.func52, Try.ntmps52
  go_wp2_with fail
  go_quiet ((go_at_call 19; refine Calls.quiet_of (HC.out _)))
  go_wp2_with fail
  go_ret
  exact ⟨rfl, _, rfl⟩
def LsC (cl : Nat) (lt : Nat → Nat → Prop) (B bl bs off N cp : Nat) (s : AlScan.Sps) : Prop :=
  ∀ (p L cap g : Nat) (D : Nat → Nat) (i j : Nat) (w : World), i < L → j < L → (∀ k, k < L → D k < N) → Hp w B p L cap g (lsf cl bl) D → SpM w bl bs off N cp s →
    ∃ b : Bool, (b = true ↔ lt (D i) (D j)) ∧ ∀ m, Calls Try.prog 52 #[ptr p, .int .i64 (i : Int), .int .i64 (j : Int)] (w.drewN m) fun e w' => e = .returned (.bool b) ∧ ∃ m', w' = (w.drewN m).drewN m'
theorem ls18 (B bl bs off N cp : Nat) (s : AlScan.Sps) : LsC 18 (later s) B bl bs off N cp s := fun p L cap g D i j w hi hj hD h hs =>
  ⟨decide (s.T (D i) < s.T (D j)), by simp [later], fun m => less52a B p L cap g bl bs off N cp s D i j hi hj hD _ (h.drewN m) (hs.drewN m)⟩
theorem ls19 (B bl bs off N cp : Nat) (s : AlScan.Sps) : LsC 19 (AlScan.worse s) B bl bs off N cp s := fun p L cap g D i j w hi hj hD h hs =>
  ⟨decide (AlScan.worse s (D i) (D j)), by simp, fun m => less52b B p L cap g bl bs off N cp s D i j hi hj hD _ (h.drewN m) (hs.drewN m)⟩
end Go.Proofs.Ytkejnhmhbmbhcaa.al
namespace Go.Proofs.Ytkejnhmhbmbhcaa.al
open Go Go.RowKit Go.BigFrame
open Go.Proofs.Ytkejnhmhbmbhcaa
structure Ex (D E : Nat → Nat) (n : Nat) : Prop where
  mem : ∀ x, AlHp.Mem E n x ↔ AlHp.Mem D n x
  inj : AlHp.Inj D n → AlHp.Inj E n
  out : ∀ k, n ≤ k → E k = D k
theorem Ex.refl (D : Nat → Nat) (n : Nat) : Ex D D n := ⟨fun _ => Iff.rfl, fun h => h, fun _ _ => rfl⟩
theorem Ex.trans {D E F : Nat → Nat} {n : Nat} (h : Ex D E n) (h' : Ex E F n) : Ex D F n := ⟨fun x => (h'.mem x).trans (h.mem x), fun i => h'.inj (h.inj i), fun k hk => (h'.out k hk).trans (h.out k hk)⟩
theorem Ex.sw (D : Nat → Nat) {n i j : Nat} (hi : i < n) (hj : j < n) : Ex D (AlHp.sw D i j) n := ⟨AlHp.sw_mem D hi hj, AlHp.sw_inj D hi hj, fun k hk => AlHp.sw_o D (by omega) (by omega)⟩
theorem Ex.lt {D E : Nat → Nat} {n L N : Nat} (h : Ex D E n) (hn : n ≤ L) (hD : ∀ k, k < L → D k < N) : ∀ k, k < L → E k < N := fun k hk => by
  by_cases hkn : k < n
  · obtain ⟨i, hi, e⟩ := (h.mem (E k)).1 ⟨k, hkn, rfl⟩
    rw [← e]; exact hD i (by omega)
  · rw [h.out k (by omega)]; exact hD k hk
theorem up29 (cl : Nat) (lt : Nat → Nat → Prop) (o : AlHp.Wk lt) (B bl bs off N cp : Nat) (s : AlScan.Sps) (hls : LsC cl lt B bl bs off N cp s) (hbl : bl < B ∧ bs < B) (p L cap g n : Nat) (D : Nat → Nat) (j : Nat) (hj : j < n) (hnL : n ≤ L) (hL : L ≤ 1000) (hD : ∀ k, k < L → D k < N) (hup : AlHp.Up lt D n j) (w : World) (h : Hp w B p L cap g (lsf cl bl) D) (hs : SpM w bl bs off N cp s) :
    Calls Try.prog 29 #[.iface 48 (ptr p), .int .i64 (j : Int)] w fun e w' => e = .returned (.tuple #[]) ∧ (∃ E, Hp w' B p L cap g (lsf cl bl) E ∧ AlHp.Hok lt E n ∧ Ex D E n) ∧ Only [g] w w' := by
  have hgB := h.gB.1
  have HK : Hid (∀ w1, Only [g] w w1 → SpM w1 bl bs off N cp s) := Lib.hid (fun w1 ho => hs.keep ho (by simp; omega) (by simp; omega))
  have H := Lib.hid h
  have HD := Lib.hid hD
  have HU := Lib.hid hup
  have HL := Lib.hid hls
  have hm1 := mLess p
  have hm2 := mSwap p
  clear h hs hD hup hls
  go_enter Try.func29, Try.ntmps29
  go_wp2_with fail
  go_loopw [1] (fun u wq => ∃ j : Nat, j < n ∧ u = .int .i64 (j : Int) ∧ Hid (∃ E, Hp wq B p L cap g (lsf cl bl) E ∧ AlHp.Up lt E n j ∧ Ex D E n ∧ Only [g] w wq)) (fun u _ => (intOf u).toNat)
  case atStart => exact ⟨j, hj, rfl, Lib.hid ⟨D, H.out, HU.out, Ex.refl _ _, Only.refl _ _⟩⟩
  case round =>
    clear H HU hj j
    obtain ⟨j, hj, rfl, hM⟩ := hrel
    by_cases hj0 : j = 0
    · subst hj0
      go_wp2_with fail
      go_end0
      obtain ⟨E, hE, hu, hx, ho⟩ := hM.out
      exact ⟨rfl, ⟨E, hE, hu.fin (.inl rfl), hx⟩, ho⟩
    · obtain ⟨E, hE, hu, hx, ho⟩ := hM.out
      obtain ⟨q, hq⟩ : ∃ q, (j - 1) / 2 = q := ⟨_, rfl⟩
      obtain ⟨j1, hj1⟩ : ∃ j1, j - 1 = j1 := ⟨_, rfl⟩
      have hne : ((q : Int) == (j : Int)) = false := by simp; omega
      have hDE := hx.lt hnL HD.out
      obtain ⟨b, hb, hc⟩ := HL.out p L cap g E j q wr (by omega) (by omega) hDE hE (HK.out _ ho)
      have C0 : Calls Try.prog 52 #[ptr p, .int .i64 (j : Int), .int .i64 (q : Int)] wr fun e w' => e = .returned (.bool b) ∧ ∃ m', w' = wr.drewN m' := hc 0
      have C := Lib.hid C0; clear C0
      have hqj : q < j := by omega
      have HB := Lib.hid hb
      have HQ := Lib.hid hq
      have hj1' : 0 < j := by omega
      have e2 : ((j : Int) - 1) / 2 = (q : Int) := by omega
      clear hb hc hq hj1 hj0
      cases b
      case false =>
        have HP := Lib.hid (And.intro hE (And.intro hu (And.intro hx ho)))
        clear hE hu hx ho hM hDE
        go_wp2_with (go_at_call 52; (with_reducible refine C.out.mono ?_); rintro ee w1 ⟨rfl, m', rfl⟩)
        go_end0
        obtain ⟨hE, hu, hx, ho⟩ := HP.out
        refine ⟨rfl, ⟨E, hE.drewN _, hu.fin (.inr ?_), hx⟩, ho.trans (only_drewN _ _ _)⟩
        unfold AlHp.Ok
        rw [HQ.out]
        exact fun hc => by have := HB.out.2 hc; cases this
      case true =>
        have CS := Lib.hid (fun m : Nat => swap55 B p L cap g (lsf cl bl) E q j (by omega) (by omega) (wr.drewN m) (hE.drewN m))
        have HP := Lib.hid (And.intro hE (And.intro hu (And.intro hx ho)))
        clear hE hu hx ho hM hDE
        go_wp2_with (first
          | (go_at_call 52; (with_reducible refine C.out.mono ?_); rintro ee w1 ⟨rfl, m', rfl⟩)
          | (go_at_call 55; (with_reducible refine (CS.out _).mono ?_); rintro ee w2 ⟨rfl, hS, hW⟩))
        obtain ⟨hE, hu, hx, ho⟩ := HP.out
        refine ⟨⟨q, by omega, rfl, Lib.hid ⟨_, hS, ?_, hx.trans (Ex.sw E (by omega) (by omega)), (ho.trans (only_drewN _ _ _)).trans hW⟩⟩, by simp [intOf]; omega⟩
        have := hu.step o (by omega) hj (by rw [HQ.out]; exact HB.out.1 (by first | exact trivial | rfl))
        rw [HQ.out] at this
        exact this
end Go.Proofs.Ytkejnhmhbmbhcaa.al
