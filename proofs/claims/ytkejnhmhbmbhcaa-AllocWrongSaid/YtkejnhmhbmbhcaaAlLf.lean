/-
  AllocWrong: the walk.
-/
import Derived.Test.YtkejnhmhbmbhcaaAlWr
import Derived.Deep.RegionLaw
set_option maxHeartbeats 64000000
set_option maxRecDepth 1000000
set_option linter.unusedVariables false
set_option linter.unusedSimpArgs false
namespace Go.Proofs.Ytkejnhmhbmbhcaa.al
open Go Go.RowKit Go.BigFrame Go.Maps
open Go.Proofs.Ytkejnhmhbmbhcaa
theorem cnt_le {s : AlScan.Sps} {R n : Nat} {E : Nat → Nat} {a : AlScan.St} (o : AlScan.Ordr s n E) (hF : ∀ g, g < n → s.F g ≤ s.T g) (h0 : ∀ g, g < n → 0 ≤ s.F g) (h : AlScan.At s R n n E a) : a.cnt ≤ n := by
  rw [← AlScan.cs_all o hF h0 n (Nat.le_refl _) a h.st]; exact cs_le _ _
theorem region_below {P : Program} {id : Nat} {Q : Exit → Act → World → Prop} {a : Act} {w : World} {l : List Oper} (w0 : World) (hm : P.follows .mixedOrders = true) (hB : Region.lexB .any l.toArray = true) (hC : Below w0.heap.size w0 w)
    (h : wpQuiet P l.toArray (fun w' => Below w0.heap.size w0 w') (fun a' => ∀ w', Below w0.heap.size w0 w' → Q .normal a' w') l a) : (Code.region id l.toArray true).wp P Q a w :=
  wp_region_quiet (C := fun w' => Below w0.heap.size w0 w') hm hB ⟨hC.os, hC.tape, hC.output, hC.size, hC.block⟩ (by simpa using h)
theorem ok_next {s : AlScan.Sps} {k r R i : Nat} {reg : Nat → Int} (h : r < R ∧ ∀ i', i' < i → OkP s k r reg i') (h' : OkP s k r reg i) : (true = true) ↔ (r < R ∧ ∀ i', i' < i + 1 → OkP s k r reg i') :=
  ⟨fun _ => ⟨h.1, fun i' hi' => by
    by_cases e : i' = i
    · rw [e]; exact h'
    · exact h.2 i' (by omega)⟩, fun _ => rfl⟩
theorem law6 (o : Option Addr) (N0 cap0 : Nat) (X : Nat → Int) (z1 z2 z3 : Int) (w : World) (h : 0 < N0 → ∃ g off, o = some ⟨g, off, none⟩ ∧ ∀ i, i < N0 → w.cell? ⟨g, off + i, none⟩ = some (.int .i64 (X i))) :
    Calls Try.prog 6 #[.slice o N0 cap0, .int .i64 z1, .int .i64 z2, .int .i64 z3] w fun e w' => e = .returned (.bool true) ∧ Below w.heap.size w w' := by
  have C11 := Lib.hid (fine11 o N0 cap0 X w h)
  clear h
  go_enter Try.func6, Try.ntmps6
  go_wp2_with fail
  (with_reducible refine C11.out.mono ?_)
  rintro ee w1 ⟨hb1, lv, n, s, hn, hsv, hf, rfl⟩
  go_wp2_with fail
  (with_reducible refine (w8 _ _).mono ?_)
  rintro ee w1' ⟨⟨q, hq, rfl⟩, rfl⟩
  obtain ⟨R, hR⟩ : ∃ R, q + 1 = R := ⟨_, rfl⟩
  have eR : 1 + (q : Int) = (R : Int) := by omega
  have HRR := Lib.hid (show 0 < R ∧ R ≤ 9 by omega)
  clear hR
  go_wp2_with fail
  (with_reducible refine (scanF (R := R) hsv hf hn (by have := HRR.out; omega)).mono ?_)
  rintro ee w2 ⟨hb2, ob, E, a, hE, hA, hP, ho1, ho2, rfl⟩
  by_cases hn0 : n = 0
  · subst hn0
    have hbel : Below w.heap.size w w2 := hb1.trans (hb2.mono hb1.size)
    have HB := Lib.hid hbel
    clear hbel hb1 hb2 hsv hf hE hA hP eR
    go_wp2_with (go_at_call 10; (with_reducible refine (known10 _).mono ?_); rintro ee w4 ⟨rfl, hb4⟩)
    go_ret
    exact ⟨rfl, HB.out.trans (hb4.mono HB.out.size)⟩
  · have dn0 : ((n : Int) == 0) = false := by simp; omega
    obtain ⟨m, hm⟩ : ∃ m, n - 1 = m := ⟨_, rfl⟩
    have em : (n : Int) - 1 = (m : Int) := by omega
    have hmn : m < n := by omega
    have HM := Lib.hid (And.intro hm hn0)
    clear hm hn0
    have C12 := Lib.hid (fun W : World => within12 z2 m (by omega) W)
    have ho := hE.ordr
    have hpl : Pl s R n a.reg a.spill := Pl.of ho hA (by have := cnt_le ho (fun g hg => (hf.t g hg).1) (fun g hg => (hf.f g hg).1) hA; omega)
    have HPL := Lib.hid hpl
    have HVB := Lib.hid (show ∀ i, i < n → 0 ≤ s.V i ∧ s.V i ≤ 100 from fun i hi => by have := hf.v i hi; omega)
    have HP := Lib.hid hP
    have HSV := Lib.hid (hsv.below hb2)
    have hbsob : ∀ bs off c, lv = .slice (some ⟨bs, off, none⟩) n c → bs < ob := fun bs off c e => by
      obtain ⟨o', c', e2, h5⟩ := hsv
      obtain ⟨bs', off', rfl, hsw⟩ := h5 (by omega)
      rw [e] at e2
      injection e2 with e2 e3 e4
      injection e2 with e2
      injection e2 with e2 e5
      have h9 : bs' < w1'.heap.size := World.block_lt_of_cell? w1' ⟨bs', off' + 0 * 3, none⟩ (hsw.v 0 (by omega))
      omega
    have HBS := Lib.hid hbsob
    have hbel : Below w.heap.size w w2 := hb1.trans (hb2.mono hb1.size)
    have HB := Lib.hid hbel
    have HOB := Lib.hid (And.intro ho1 (And.intro ho2 hb1.size))
    clear hbsob hpl hP hsv hbel hb1 hb2 hf hE hA ho ho1 ho2 eR
    go_wp2_with fail
    (with_reducible refine (C12.out _).mono ?_)
    rintro ee w3 ⟨⟨k, hk, rfl⟩, rfl⟩
    go_wp2_with fail
    (with_reducible refine (w12 _ _).mono ?_)
    rintro ee w3' ⟨⟨r, hr, rfl⟩, rfl⟩
    have hkn : k < n := by omega
    have bk : (k : Int) < (n : Int) := by omega
    have p0 := HP.out.v k hkn
    have p1 := HP.out.r k hkn
    have p2 := HP.out.s k hkn
    have y1 := HP.out.z (k * 3 + 1)
    have y2 := HP.out.z (k * 3 + 2)
    go_wp2_with fail
    have hP4 : PlM ((w3'.setCell ⟨ob, k * 3 + 1, none⟩ (.int .i64 (r : Int))).setCell ⟨ob, k * 3 + 2, none⟩ (.int .i64 (-1))) ob n s.V (AlScan.upd a.reg k (r : Int)) (AlScan.upd a.spill k (-1)) := (HP.out.setR hkn (r : Int)).setS hkn (-1)
    have hO4 : Only [ob] w3' ((w3'.setCell ⟨ob, k * 3 + 1, none⟩ (.int .i64 (r : Int))).setCell ⟨ob, k * 3 + 2, none⟩ (.int .i64 (-1))) := ((Only.refl _ _).set _ (by simp)).set _ (by simp)
    generalize hW4 : (w3'.setCell ⟨ob, k * 3 + 1, none⟩ (.int .i64 (r : Int))).setCell ⟨ob, k * 3 + 2, none⟩ (.int .i64 (-1)) = w4 at hP4 hO4 ⊢
    obtain ⟨reg, hreg⟩ : ∃ f, AlScan.upd a.reg k (r : Int) = f := ⟨_, rfl⟩
    obtain ⟨spill, hspill⟩ : ∃ f, AlScan.upd a.spill k (-1) = f := ⟨_, rfl⟩
    rw [hreg, hspill] at hP4
    have hrk : reg k = (r : Int) := by rw [← hreg]; exact AlScan.upd_self _ _ _
    have hiff : RightP s s.V reg spill R n ↔ (r < R ∧ ∀ i, i < n → OkP s k r reg i) := by rw [← hreg, ← hspill]; exact wrong_iff HPL.out hkn
    have hform : Form n reg spill := by rw [← hreg, ← hspill]; exact wrong_form HPL.out
    have hob1 : w.heap.size ≤ ob := by have := HOB.out; omega
    have hb4 : Below w.heap.size w w4 := HB.out.trans (hO4.below_of (fun c hc => by simp at hc; omega) HB.out.size)
    have hsv4 : SpV w4 lv n s := by
      obtain ⟨o', c', rfl, h5⟩ := HSV.out
      refine ⟨o', c', rfl, fun h0 => ?_⟩
      obtain ⟨bs, off, rfl, hsw⟩ := h5 h0
      have hne : bs ∉ [ob] := by have := HBS.out bs off c' rfl; simp; omega
      exact ⟨bs, off, rfl, fun i hi => cell_keep (hsw.v i hi) hO4 hne, fun i hi => cell_keep (hsw.f i hi) hO4 hne, fun i hi => cell_keep (hsw.t i hi) hO4 hne⟩
    have hob4 : ob < w4.heap.size := by have := hO4.size; have := HOB.out; omega
    have HP4 := Lib.hid hP4
    have HB4 := Lib.hid hb4
    have HSV4 := Lib.hid hsv4
    have HIFF := Lib.hid hiff
    have HFORM := Lib.hid hform
    clear hP4 hO4 hb4 hsv4 hiff hform hW4 p0 p1 p2 y1 y2 hreg hspill HP HB HSV
    go_loopw [15, 16] (fun okv u wq => ∃ (i : Nat) (b : Bool), i ≤ n ∧ u = .int .i64 (i : Int) ∧ okv = .bool b ∧ Hid ((b = true ↔ (r < R ∧ ∀ i', i' < i → OkP s k r reg i')) ∧ Below w4.heap.size w4 wq)) (fun _ u _ => n - (intOf u).toNat)
    case atStart => exact ⟨0, decide (r < R), by omega, rfl, rfl, Lib.hid ⟨by simp, Below.refl _ _⟩⟩
    case round =>
      obtain ⟨i, b, hi, rfl, rfl, hM⟩ := hrel
      by_cases hin : i < n
      · have bi : (i : Int) < (n : Int) := by omega
        have hP := HP4.out.below hob4 hM.out.2
        have p1 := hP.r i hin
        have hsv := HSV4.out.below hM.out.2
        obtain ⟨o', c', rfl, hsv⟩ := hsv
        obtain ⟨bs, off, rfl, hsw⟩ := hsv (by omega)
        have vi := hsw.v i hin
        have fi := hsw.f i hin
        have ti := hsw.t i hin
        have vk := hsw.v k hkn
        have fk := hsw.f k hkn
        have tk := hsw.t k hkn
        have HIB := Lib.hid hM.out
        have hswf : ∀ wz, Below w4.heap.size w4 wz → SpW wz bs off n s := fun wz hz => by
          obtain ⟨o2, c2, he, h2⟩ := HSV4.out.below hz
          injection he with h3 h4 h5
          obtain ⟨bs2, off2, e, h6⟩ := h2 (by omega)
          rw [← h3] at e
          injection e with e
          injection e with e1 e2
          subst e1 e2
          exact h6
        have HSWF := Lib.hid hswf
        clear hM hP hsw hsv hswf
        cases b
        case false =>
          as_aux_lemma =>
            go_wp2_with fail
            go_quiet (fail)
            go_wp2_with fail
            exact ⟨⟨i + 1, false, hin, by first | rfl | simp, rfl, Lib.hid ⟨⟨(fun h => by cases h), fun h => HIB.out.1.2 ⟨h.1, fun i' hi' => h.2 i' (by omega)⟩⟩, bel_drewN HIB.out.2 _⟩⟩, by simp [intOf] <;> omega⟩
        case true =>
          by_cases hik : i = k
          · have dk : ((i : Int) == (k : Int)) = true := by simp [hik]
            have HIK := Lib.hid hik
            clear hik
            as_aux_lemma =>
              go_wp2_with fail
              go_quiet (fail)
              go_wp2_with fail
              exact ⟨⟨i + 1, true, hin, by first | rfl | simp, rfl, Lib.hid ⟨ok_next (HIB.out.1.1 (by first | trivial | rfl)) (.inl HIK.out), bel_drewN HIB.out.2 _⟩⟩, by simp [intOf] <;> omega⟩
          · have dk : ((i : Int) == (k : Int)) = false := by simp; omega
            by_cases hx : reg i = (r : Int)
            · rw [hx] at p1
              have dx : ((r : Int) != (r : Int)) = false := by simp
              have dx2 : ((r : Int) == (r : Int)) = true := by simp
              obtain ⟨mb, hmb⟩ : ∃ mb, decide (s.F i ≤ s.T k ∧ s.F k ≤ s.T i) = mb := ⟨_, rfl⟩
              have CM := Lib.hid (fun W : World => by have := meet14 (s.V i) (s.F i) (s.T i) (s.V k) (s.F k) (s.T k) W; rw [hmb] at this; exact this)
              have HX := Lib.hid (And.intro hik (And.intro hx hmb))
              clear hik hx hmb
              go_wp2_with fail
              refine region_below w4 (by kernel_rfl) (by kernel_rfl) HIB.out.2 ?_
              repeat (first
                | go_big_quiet_skip
                | (go_big_quiet_want; go_big_quiet_op; go_big_quiet_on)
                | (go_big_quiet_want; refine ⟨.bool false, fun wz hz => ?_, ?_⟩; (focus (go_simp; done)); go_simp; go_big_quiet_on)
                | (go_big_quiet_want; refine ⟨.bool true, fun wz hz => ?_, ?_⟩; (focus (go_simp; done)); go_simp; go_big_quiet_on)
                | (go_big_quiet_want; refine ⟨.bool (!mb), fun wz hz => ?_, ?_⟩; (focus (go_simp; done)); go_simp; go_big_quiet_on)
                | (go_big_quiet_want; refine ⟨.pointer (some ⟨ob, i * 3, none⟩), fun wz hz => ?_, ?_⟩; (focus (go_simp; done)); go_simp; go_big_quiet_on)
                | (go_big_quiet_want; refine ⟨.pointer (some ⟨ob, i * 3 + 1, none⟩), fun wz hz => ?_, ?_⟩; (focus (go_simp; done)); go_simp; go_big_quiet_on)
                | (go_big_quiet_want; refine ⟨.pointer (some ⟨bs, off + i * 3, none⟩), fun wz hz => ?_, ?_⟩; (focus (go_simp; done)); go_simp; go_big_quiet_on)
                | (go_big_quiet_want; refine ⟨.pointer (some ⟨bs, off + k * 3, none⟩), fun wz hz => ?_, ?_⟩; (focus (go_simp; done)); go_simp; go_big_quiet_on)
                | (go_big_quiet_want; refine ⟨.int .i64 (r : Int), fun wz hz => ?_, ?_⟩; (focus (have q1 := (HP4.out.below hob4 hz).r i hin; rw [HX.out.2.1] at q1; go_simp; done)); go_simp; go_big_quiet_on)
                | (go_big_quiet_want; refine ⟨.agg #[.int .i64 (s.V i), .int .i64 (s.F i), .int .i64 (s.T i)], fun wz hz => ?_, ?_⟩; (focus (have q1 := (HSWF.out wz hz).v i hin; have q2 := (HSWF.out wz hz).f i hin; have q3 := (HSWF.out wz hz).t i hin; go_simp; done)); go_simp; go_big_quiet_on)
                | (go_big_quiet_want; refine ⟨.agg #[.int .i64 (s.V k), .int .i64 (s.F k), .int .i64 (s.T k)], fun wz hz => ?_, ?_⟩; (focus (have q1 := (HSWF.out wz hz).v k hkn; have q2 := (HSWF.out wz hz).f k hkn; have q3 := (HSWF.out wz hz).t k hkn; go_simp; done)); go_simp; go_big_quiet_on)
                | (go_big_quiet_want; go_big_quiet_op; apply Exists.intro; refine ⟨fun wz hz => ?_, ?_⟩; (go_at_call 14; refine (CM.out _).mono ?_; rintro ee w7 ⟨rfl, o1, o2, rfl⟩; exact ⟨rfl, hz.trans ((((Below.refl _ _).alloc (Nat.le_refl _) _).alloc (by simp) _).mono hz.size)⟩); go_big_quiet_on))
              refine wpQuiet_nil ?_
              intro wz hz
              go_wp2_with fail
              refine ⟨⟨i + 1, !mb, hin, by first | rfl | simp, rfl, Lib.hid ⟨?_, hz⟩⟩, by simp [intOf] <;> omega⟩
              obtain ⟨hik, hx, hmb⟩ := HX.out
              have hprev := HIB.out.1.1 (by first | trivial | rfl)
              constructor
              · intro h1
                have hmf : mb = false := by simpa using h1
                rw [hmf] at hmb
                exact (ok_next hprev (.inr (.inr (of_decide_eq_false hmb)))).1 rfl
              · intro h1
                have h2 := h1.2 i (by omega)
                rcases h2 with h2 | h2 | h2
                · exact absurd h2 hik
                · exact absurd hx h2
                · rw [← hmb, decide_eq_false h2]; rfl
            · have dx : (reg i != (r : Int)) = true := by simp; exact hx
              have dx2 : (reg i == (r : Int)) = false := by simp; exact hx
              have HX := Lib.hid hx
              clear hx
              as_aux_lemma =>
                go_wp2_with fail
                go_quiet (fail)
                go_wp2_with fail
                exact ⟨⟨i + 1, true, hin, by first | rfl | simp, rfl, Lib.hid ⟨ok_next (HIB.out.1.1 (by first | trivial | rfl)) (.inr (.inl HX.out)), bel_drewN HIB.out.2 _⟩⟩, by simp [intOf] <;> omega⟩
      · have bi : ¬ (i : Int) < (n : Int) := by omega
        obtain rfl : n = i := by omega
        have hP := HP4.out.below hob4 hM.out.2
        have hsv := HSV4.out.below hM.out.2
        obtain ⟨o', c', rfl, hsvx⟩ := hsv
        have cp := right13 o' n c' ob n R s s.V reg spill (by omega) (Nat.le_refl _) (by have := HRR.out; omega) HFORM.out wr ⟨o', c', rfl, hsvx⟩ hP (by have := hM.out.2.size; omega)
        have hb : b = true ↔ RightP s s.V reg spill R n := hM.out.1.trans HIFF.out.symm
        have HBX := Lib.hid hb
        have HB5 := Lib.hid hM.out.2
        clear hM hP hsvx hb
        go_wp2_with fail
        (with_reducible refine cp.mono ?_)
        clear cp
        rintro ee w5 ⟨hb5, hres⟩
        have hres2 : ee = .returned (.bool b) := by
          rcases hres with ⟨h1, h2⟩ | ⟨h1, h2⟩
          · rw [h2, HBX.out.2 h1]
          · rw [h2]
            cases b
            · rfl
            · exact absurd (HBX.out.1 rfl) h1
        subst hres2
        have hbel5 := HB5.out.trans (hb5.mono HB5.out.size)
        have hP5 := HP4.out.below hob4 hbel5
        have p0 := hP5.v k hkn
        have y0 := hP5.z (k * 3)
        obtain ⟨vk, hvk⟩ : ∃ vk, s.V k = vk := ⟨_, rfl⟩
        rw [hvk] at p0
        have hvb : 0 ≤ vk ∧ vk ≤ 100 := by rw [← hvk]; exact HVB.out k hkn
        obtain ⟨hv1, hv2⟩ := hvb
        have hbb1 : (b != b) = false := by simp
        have hbb2 : (b == b) = true := by simp
        have HVK := Lib.hid hvk
        have HB6 := Lib.hid hbel5
        have HP5 := Lib.hid hP5
        clear hb5 hres hbel5 hP5 hvk
        go_wp2_with fail
        have hO6 : Only [ob] w5 (w5.setCell ⟨ob, k * 3, none⟩ (.int .i64 (vk + 1))) := (Only.refl _ _).set _ (by simp)
        have hP6 := HP5.out.setV hkn (vk + 1)
        have hob5 : ob < w5.heap.size := by have := HB6.out.size; omega
        have hsv6 : SpV (w5.setCell ⟨ob, k * 3, none⟩ (.int .i64 (vk + 1))) (.slice o' n c') n s := by
          obtain ⟨o2, c2, he, h5⟩ := HSV4.out.below HB6.out
          refine ⟨o2, c2, he, fun h0 => ?_⟩
          obtain ⟨bs, off, rfl, hsw⟩ := h5 h0
          have hne : bs ∉ [ob] := by
            have := HBS.out bs off c2 (by rw [he]); simp; omega
          exact ⟨bs, off, rfl, fun i hi => cell_keep (hsw.v i hi) hO6 hne, fun i hi => cell_keep (hsw.f i hi) hO6 hne, fun i hi => cell_keep (hsw.t i hi) hO6 hne⟩
        have cp := right13 o' n c' ob n R s (AlScan.upd s.V k (vk + 1)) reg spill (by omega) (Nat.le_refl _) (by have := HRR.out; omega) HFORM.out _ hsv6 hP6 (by have := hO6.size; omega)
        have hb6 : Below w.heap.size w (w5.setCell ⟨ob, k * 3, none⟩ (.int .i64 (vk + 1))) := ((HB4.out.trans (HB6.out.mono HB4.out.size))).trans (hO6.below_of (fun c hc => by simp at hc; omega) (by have := HB4.out.size; have := HB6.out.size; omega))
        have HB7 := Lib.hid hb6
        clear hO6 hP6 hsv6 hb6 p0 y0
        (with_reducible refine cp.mono ?_)
        clear cp
        rintro ee w7 ⟨hb7, hres⟩
        have hres2 : ee = .returned (.bool false) := by
          rcases hres with ⟨h1, h2⟩ | ⟨h1, h2⟩
          · have h3 := (h1 k hkn).1
            rw [AlScan.upd_self, HVK.out] at h3
            omega
          · exact h2
        subst hres2
        have HB8 := Lib.hid (HB7.out.trans (hb7.mono HB7.out.size))
        have CL := Lib.hid (fun W : World => right13_len o' n c' m n (some ⟨ob, 0, none⟩) (R : Int) (by have := HM.out; omega) W)
        have bmn : (m : Int) ≤ (n : Int) := by omega
        clear hb7 hres
        go_wp2_with (first
          | (go_at_call 13; (with_reducible refine (CL.out _).mono ?_); rintro ee w8 ⟨rfl, rfl⟩)
          | (go_at_call 10; (with_reducible refine (known10 _).mono ?_); rintro ee w9 ⟨rfl, hb9⟩))
        go_ret
        exact ⟨rfl, HB8.out.trans (hb9.mono HB8.out.size)⟩
end Go.Proofs.Ytkejnhmhbmbhcaa.al
