/-
  carafelaw20.SimRuns: both machines run alike.
-/
import Derived.Test.YtpcocfdgcihpdaaSmU
import Derived.OwnWalk
set_option maxHeartbeats 64000000
set_option maxRecDepth 1000000
set_option linter.unusedVariables false
set_option linter.unusedSimpArgs false
namespace Go.Proofs.Ytpcocfdgcihpdaa.rdw
open Go Go.RowKit Go.BigFrame
open Go.Proofs.Ytpcocfdgcihpdaa Go.Proofs.Ytpcocfdgcihpdaa.wr Go.Proofs.Ytpcocfdgcihpdaa.x86enc
set_option linter.unusedVariables false
set_option linter.unusedSimpArgs false
def rvs (R : Nat → Int) : List Value := [.int .i32 (R 0), .int .i32 (R 1), .int .i32 (R 2), .int .i32 (R 3), .int .i32 (R 4), .int .i32 (R 5), .int .i32 (R 6), .int .i32 (R 7), .int .i32 (R 8), .int .i32 (R 9), .int .i32 (R 10), .int .i32 (R 11), .int .i32 (R 12), .int .i32 (R 13), .int .i32 (R 14), .int .i32 (R 15)]
theorem rvs_get (R : Nat → Int) {r : Nat} (h : r < 16) : (rvs R)[r]? = some (.int .i32 (R r)) := by
  rcases r16 h with e | e | e | e | e | e | e | e | e | e | e | e | e | e | e | e <;> subst e <;> rfl
structure Box42 (w : World) (b : Nat) (R : Nat → Int) : Prop where
  h : w.heap[b]? = some (.cells (rvs R).toArray 42 (0, 0))
theorem Box42.cell {w : World} {b : Nat} {R : Nat → Int} (h : Box42 w b R) {r : Nat} (hr : r < 16) : w.cell? ⟨b, r, none⟩ = some (.int .i32 (R r)) := by
  simp only [World.cell?, h.h]
  have := rvs_get R hr
  simpa using this
theorem Box42.keep {w w' : World} {b : Nat} {R : Nat → Int} {S : List Nat} (h : Box42 w b R) (ho : Only S w w') (hb : b ∉ S) : Box42 w' b R := ⟨(ho.same b (block_lt h.h) hb).trans h.h⟩
def MiR (R : Nat → Int) (i : Nat) : Nat → Int := fun r => if r < i ∧ RD.reg (r : Int) = true then R r else 0
def Mi (nw : Nat) (R : Nat → Int) (i : Nat) : Mach := { mw nw with R := MiR R i }
theorem Mi_zero (nw : Nat) (R : Nat → Int) : Mi nw R 0 = mw nw := by
  have : MiR R 0 = (mw nw).R := by funext r; simp [MiR, mw, m0]
  unfold Mi; rw [this]
theorem Mi_yes (nw : Nat) (R : Nat → Int) (i : Nat) (h : RD.reg (i : Int) = true) : { Mi nw R i with R := upd (Mi nw R i).R i (R i) } = Mi nw R (i + 1) := by
  have : upd (Mi nw R i).R i (R i) = MiR R (i + 1) := by
    funext r
    unfold upd
    show (if r = i then R i else MiR R i r) = MiR R (i + 1) r
    unfold MiR
    by_cases e : r = i
    · subst e; rw [if_pos rfl, if_pos ⟨by omega, h⟩]
    · rw [if_neg e]
      by_cases h1 : r < i ∧ RD.reg (r : Int) = true
      · rw [if_pos h1, if_pos ⟨by omega, h1.2⟩]
      · rw [if_neg h1, if_neg (fun h2 => h1 ⟨by omega, h2.2⟩)]
  rw [this]; rfl
theorem Mi_no (nw : Nat) (R : Nat → Int) (i : Nat) (h : ¬ RD.reg (i : Int) = true) : Mi nw R i = Mi nw R (i + 1) := by
  have : MiR R i = MiR R (i + 1) := by
    funext r
    unfold MiR
    by_cases h1 : r < i ∧ RD.reg (r : Int) = true
    · rw [if_pos h1, if_pos ⟨by omega, h1.2⟩]
    · rw [if_neg h1, if_neg (fun h2 => h1 ⟨by
        have : r ≠ i := fun e => h (e ▸ h2.2)
        omega, h2.2⟩)]
  unfold Mi; rw [this]
structure Two (w : World) (g gr gw gb cb : Nat) (h hk hw hb cc : Nat) (bs : List Int) (m : Mach) (l : Int) : Prop where
  sim : SimQ w g gr gw gb cb bs m
  ref : RefQ w h hk hw hb cc bs m l
structure Apart (br B : Nat) (g gr gw gb : Nat) (h hk hw hb : Nat) (bs : List Int) : Prop where
  box : br < g ∧ br < gr ∧ br < gw ∧ br < gb
  lo : g < B ∧ gr < B ∧ gw < B ∧ gb < B
  hi : B ≤ h ∧ B ≤ hk ∧ B ≤ hw ∧ B ≤ hb
  ek : bs = [] → hk = h
theorem Apart.sim {br B g gr gw gb h hk hw hb : Nat} {bs : List Int} (a : Apart br B g gr gw gb h hk hw hb bs) : h ∉ [g, gr, gw] ∧ hk ∉ [g, gr, gw] ∧ hw ∉ [g, gr, gw] ∧ hb ∉ [g, gr, gw] ∧ br ∉ [g, gr, gw] := by
  obtain ⟨h1, h2, h3, h4⟩ := a
  simp; omega
theorem Apart.ref {br B g gr gw gb h hk hw hb : Nat} {bs : List Int} (a : Apart br B g gr gw gb h hk hw hb bs) : g ∉ [h, hk, hw] ∧ gr ∉ [h, hk, hw] ∧ gw ∉ [h, hk, hw] ∧ gb ∉ [h, hk, hw] ∧ br ∉ [h, hk, hw] := by
  obtain ⟨h1, h2, h3, h4⟩ := a
  simp; omega
theorem law5 (ad : Option Addr) (n cap : Nat) (O A X M : Nat → Int) (hM : ∀ i, i < n → I32 (M i)) (R : Nat → Int) (hR : ∀ r, r < 16 → I32 (R r)) (steps : Int) (w : World) (hI : ∀ l, l ≤ n → Ins w w.heap.size ad l O A X M) :
    Calls Try.prog 5 #[.slice ad n cap, .agg (rvs R).toArray, .int .i64 steps] w fun e w' => e = .returned (.bool true) ∧ Below w.heap.size w w' := by
  have hI := hI n (Nat.le_refl _)
  have HI := Lib.hid hI; clear hI
  have HMM := Lib.hid hM; clear hM
  have HRR := Lib.hid hR; clear hR
  have N9 := Lib.hid (fun bs B v w hB h hby hlen => (show Calls Try.prog 9 #[v, .int .i64 4] w _ from newQ9 bs B v 4 w hB h hby hlen (by omega)))
  have N17 := Lib.hid (fun bs B v w hB h hby hlen => (show Calls Try.prog 17 #[v, .int .i64 4] w _ from newQ17 bs B v 4 w hB h hby hlen (by omega)))
  go_enter Try.func5, Try.ntmps5
  go_upto_region 1 with fail
  have hb1 : Below w.heap.size w (w.alloc (.cells (rvs R).toArray 42)) := (Below.refl _ _).alloc (Nat.le_refl _) _
  have hins := HI.out.mono hb1 hb1.size
  have hbox : Box42 (w.alloc (.cells (rvs R).toArray 42)) w.heap.size R := ⟨heap_alloc_new _ _⟩
  have hlt := block_lt hbox.h
  generalize w.alloc (.cells (rvs R).toArray 42) = w1 at *
  obtain ⟨br, hbr⟩ : ∃ br, w.heap.size = br := ⟨_, rfl⟩
  rw [hbr] at hbox hlt hb1 ⊢
  have HBR := Lib.hid hbr; clear hbr
  have HINS := Lib.hid hins; clear hins
  have HBOX := Lib.hid hbox; clear hbox
  have HB1 := Lib.hid hb1; clear hb1
  have hcle := fun k => cat_le (fun i => encB (O i) (A i) (X i) (M i)) (fun i => enc_short _ _ _ _) k
  have HCLE := Lib.hid hcle; clear hcle
  go_wp2_with (first
    | (go_at_call 10; (with_reducible refine (code10 ad n cap O A X M w1 HINS.out).mono ?_); rintro e w2 ⟨mm, vb, q1, q2, q3, rfl, hob, hb2⟩; have hcb := cat_b (fun i => encB (O i) (A i) (X i) (M i)) mm (fun i hi => enc_b _ _ _ _ (HMM.out i (by omega))); have hcl := HCLE.out mm; obtain ⟨bs, hbs⟩ : ∃ bs, cat (fun i => encB (O i) (A i) (X i) (M i)) mm = bs := ⟨_, rfl⟩; rw [hbs] at hob hcb hcl; have HOB := Lib.hid hob; have HB2 := Lib.hid hb2; have HCB := Lib.hid hcb; have hl2 := hb2.size; clear hob hb2 hcb hbs)
    | (go_at_call 9; (with_reducible refine (N9.out bs w1.heap.size vb w2 HB2.out.size HOB.out HCB.out (by omega)).mono ?_); rintro e w3 ⟨g, gr, gw, gb, cb, rfl, hsim, hsp, hb3⟩; have HSIM := Lib.hid hsim; have HSP := Lib.hid hsp; have HB3 := Lib.hid hb3; have hl3 := hb3.size; clear hsim hsp hb3)
    | (go_at_call 17; (with_reducible refine (N17.out bs w1.heap.size vb w3 (by omega) (own_below HOB.out HB3.out) HCB.out (by omega)).mono ?_); rintro e w4 ⟨h, hk, hw, hb, cc, rfl, href, hek, hsp, hb4⟩; have HREF := Lib.hid href; have HSP2 := Lib.hid hsp; have HEK := Lib.hid hek; have HB4 := Lib.hid hb4; have hl4 := hb4.size; clear href hsp hek hb4))
  obtain ⟨sl1, sh1⟩ := HSP.out
  obtain ⟨sl2, sh2⟩ := HSP2.out
  have AP : Apart br w3.heap.size g gr gw gb h hk hw hb bs := ⟨by omega, ⟨sh1.1, sh1.2.1, sh1.2.2.1, sh1.2.2.2⟩, sl2, HEK.out⟩
  have TW : Two w4 g gr gw gb cb h hk hw hb cc bs (Mi 4 R 0) 0 := by
    rw [Mi_zero]
    exact ⟨HSIM.out.keepT (Only.below (S := []) HB4.out) (by simp) (by simp), HREF.out⟩
  have BX4 : Box42 w4 br R := ((HBOX.out.keep (Only.below (S := []) HB2.out) (by simp)).keep (Only.below (S := []) HB3.out) (by simp)).keep (Only.below (S := []) HB4.out) (by simp)
  have hbel : Below br w w4 := ((HB1.out.trans (HB2.out.mono (by omega))).trans (HB3.out.mono (by omega))).trans (HB4.out.mono (by omega))
  have HAP := Lib.hid AP; clear AP
  have HTW := Lib.hid TW; clear TW
  have HBX := Lib.hid BX4; clear BX4
  have HBEL := Lib.hid hbel; clear hbel
  clear sl1 sh1 sl2 sh2 HSP HSP2 HSIM HREF HEK HBOX HB1 HB2 HB3 HB4 HOB HCB HINS hl2 hl3 hl4 N9 N17 HCLE hcl
  go_loopw [11] (fun s wq => ∃ i : Nat, i ≤ 16 ∧ s = .int .i64 i ∧ Hid (Two wq g gr gw gb cb h hk hw hb cc bs (Mi 4 R i) 0) ∧ Hid (Box42 wq br R) ∧ Hid (Below br w wq)) (fun s _ => 16 - (intOf s).toNat)
  case atStart => exact ⟨0, Nat.zero_le _, rfl, HTW, HBX, HBEL⟩
  case round =>
    clear HTW HBX HBEL
    obtain ⟨i, hi, rfl, HTW, HBX, HBEL⟩ := hrel
    have hA := HAP.out
    have hbrw : br ≤ wr.heap.size := by have := block_lt HBX.out.h; omega
    by_cases hi1 : i < 16
    · have hkd : decide ((i : Int) < 16) = true := by simp; omega
      have hi' : (i : Int) < 16 := by omega
      have hc := HBX.out.cell hi1
      have C := setRegQ g gr gw gb cb bs (Mi 4 R i) i hi1 (R i) (HRR.out i hi1) wr HTW.out.sim
      by_cases hx : RD.reg (i : Int) = true
      · rw [if_pos hx, if_pos hx, Mi_yes 4 R i hx] at C
        have HC := Lib.hid C; clear C
        have hA := Lib.hid hA
        go_upto_region 10 with (go_at_call 12; (with_reducible refine HC.out.mono ?_); rintro e w5 ⟨rfl, h5, ho5⟩; have H5 := Lib.hid h5; have HO5 := Lib.hid ho5; clear h5 ho5)
        have hr5 := HTW.out.ref.keepT HO5.out (by have := hA.out.sim; have := hA.out.lo; have := hA.out.hi; simp; omega)
        have hb5 := HBX.out.keep HO5.out (by have := hA.out.box; simp; omega)
        obtain ⟨⟨cv, kv, hm5⟩, _⟩ := hr5.facts
        have c5 := hb5.cell hi1
        have g5 := hm5.cell (1 + i) (nc_reg cv _ kv _ 0 hi1)
        have f5 := hm5.froz (1 + i)
        have hr6 := refSetR hr5 hi1 (HRR.out i hi1)
        rw [Mi_yes 4 R i hx] at hr6
        have HR6 := Lib.hid hr6; clear hr6 hm5
        have HB5 := Lib.hid hb5; clear hb5 hr5 hc
        go_region
        have ho6 : Only [h] w5 ((w5.setCell ⟨h, 1 + i, none⟩ (.int .i32 (R i))).drew) := ((Only.refl _ _).set _ (by simp)).drew
        have hr7 : RefQ ((w5.setCell ⟨h, 1 + i, none⟩ (.int .i32 (R i))).drew) h hk hw hb cc bs (Mi 4 R (i + 1)) 0 := HR6.out.drewN 1
        have hs7 := H5.out.keepT ho6 (by have := hA.out.lo; have := hA.out.hi; simp; omega) (by
          intro q hq
          simp only [List.mem_cons, List.not_mem_nil, or_false] at hq
          subst hq
          exact (HTW.out.ref.keepT HO5.out (by have := hA.out.sim; have := hA.out.lo; have := hA.out.hi; simp; omega)).other.2 _ (by simp))
        have hb7 := HB5.out.keep ho6 (by have := hA.out.box; have := hA.out.lo; have := hA.out.hi; simp; omega)
        have hbel7 : Below br w ((w5.setCell ⟨h, 1 + i, none⟩ (.int .i32 (R i))).drew) := HBEL.out.trans ((HO5.out.mono (T := [g, h]) (by simp)).trans (ho6.mono (T := [g, h]) (by simp)) |>.below_of (by have := hA.out.box; have := hA.out.lo; have := hA.out.hi; intro c hc; simp at hc; omega) hbrw)
        have HT7 := Lib.hid (Two.mk hs7 hr7); have HB7 := Lib.hid hb7; have HL7 := Lib.hid hbel7
        clear hs7 hr7 hb7 hbel7 ho6 c5 g5 f5
        generalize (w5.setCell ⟨h, 1 + i, none⟩ (.int .i32 (R i))).drew = w7 at *
        go_wp2_with fail
        exact ⟨⟨i + 1, by omega, by go_num, HT7, HB7, HL7⟩, by simp [intOf]; omega⟩
      · rw [if_neg hx, if_neg hx, Mi_no 4 R i hx] at C
        have HC := Lib.hid C; clear C
        go_wp2_with (go_at_call 12; (with_reducible refine HC.out.mono ?_); rintro e w5 ⟨rfl, h5, ho5⟩; have H5 := Lib.hid h5; have HO5 := Lib.hid ho5; clear h5 ho5)
        have hr5 := HTW.out.ref.keepT HO5.out (by have := hA.lo; have := hA.hi; simp; omega)
        rw [Mi_no 4 R i hx] at hr5
        exact ⟨⟨i + 1, by omega, by go_num, Lib.hid ⟨H5.out, hr5⟩, Lib.hid (HBX.out.keep HO5.out (by have := hA.box; simp; omega)), Lib.hid (HBEL.out.trans (HO5.out.below_of (by have := hA.box; intro c hc; simp at hc; omega) hbrw))⟩, by simp [intOf]; omega⟩
    · have hkd : decide ((i : Int) < 16) = false := by simp; omega
      clear hi hi1 hbrw HBX
      go_wp2_with fail
      go_loopw [12] (fun s wq => ∃ k : Nat, k ≤ 3 ∧ s = .int .i64 k ∧ Hid (∃ (m1 : Mach) (l1 : Int), Two wq g gr gw gb cb h hk hw hb cc bs m1 l1) ∧ Hid (Below br w wq) ∧ br ≤ wq.heap.size) (fun s _ => 3 - (intOf s).toNat)
      case atStart => exact ⟨0, Nat.zero_le _, rfl, Lib.hid ⟨_, _, HTW.out⟩, HBEL, by have := HBEL.out.size; have := HBR.out; omega⟩
      case round =>
        clear HTW HBEL
        obtain ⟨k, hk3, rfl, HT, HBEL, hbrw⟩ := hrel
        by_cases hk1 : k < 3
        · have hkd : decide ((k : Int) < 3) = true := by simp; omega
          obtain ⟨m1, l1, hT⟩ := HT.out
          have HC13 := Lib.hid (run13Q g gr gw gb cb bs m1 (steps.tmod 2000) wr hT.sim)
          have HT1 := Lib.hid hT; clear hT HT
          have HA := Lib.hid hA; clear hA
          go_wp2_with (first
            | (go_at_call 13; (with_reducible refine HC13.out.mono ?_); rintro e w5 ⟨n1, m2, s2, rfl, hrun, hle, hend, hs5, hwl5, ho5⟩; have hr5 := HT1.out.ref.keepT ho5 (by have := HA.out.lo; have := HA.out.hi; simp; omega); have HR5 := Lib.hid hr5; have HS5 := Lib.hid hs5; have HO5 := Lib.hid ho5; have HRUN := Lib.hid (And.intro hrun (And.intro hle hend)); clear hrun hle hend hs5 hwl5 ho5 hr5)
            | (go_at_call 18; (with_reducible refine (run18Q h hk hw hb cc bs m1 l1 (steps.tmod 2000) w5 HR5.out).mono ?_); rintro e w6 ⟨n2, m3, s3, l3, rfl, hrun, hle, hend, hr6, hwl6, ho6⟩; obtain ⟨rfl, rfl, rfl⟩ := HRUN.out.1.same hrun HRUN.out.2.1 hle HRUN.out.2.2 hend; have HS6 := Lib.hid (HS5.out.keepT ho6 (by have := HA.out.lo; have := HA.out.hi; simp; omega) (HR5.out.other3 HA.out.ek)); have HR6 := Lib.hid hr6; have HO6 := Lib.hid ho6; clear hrun hle hend hr6 hwl6 ho6))
          obtain ⟨⟨cv, kv, hm6⟩, _⟩ := HR6.out.facts
          obtain ⟨⟨cv', rv', op', a', b', n', hs6⟩, _⟩ := HS6.out.facts
          have c18 := hm6.cell 18 rfl
          have c1 := hm6.cell 1 rfl
          have A19 := Lib.hid (fun j : Nat => at19 g cv' rv' _ m2 op' a' b' n' (w6.drewN j) ⟨hs6.h⟩)
          have A16 := Lib.hid (fun j : Nat => reg16_0 g cv' rv' _ m2 op' a' b' n' (w6.drewN j) ⟨hs6.h⟩)
          have hbel6 : Below br w w6 := HBEL.out.trans ((HO5.out.mono (T := [g, gr, gw, h, hk, hw]) (by simp)).trans (HO6.out.mono (T := [g, gr, gw, h, hk, hw]) (by simp)) |>.below_of (by have := HA.out.box; have := HA.out.lo; have := HA.out.hi; intro c hc; simp at hc; omega) hbrw)
          have HT6 := Lib.hid (Two.mk HS6.out HR6.out); have HL6 := Lib.hid hbel6
          clear hm6 hs6 hbel6
          go_quiet (first
            | (go_at_call 19; refine Calls.quiet_of_same (A19.out _))
            | (go_at_call 16; refine Calls.quiet_of_same (A16.out _)))
          go_wp2_with fail
          exact ⟨⟨k + 1, by omega, by go_num, Lib.hid ⟨m2, l3, HT6.out.sim.drewN _, HT6.out.ref.drewN _⟩, Lib.hid (HL6.out.trans (Only.below_of (only_drewN [] _ _) (by simp) (by have := HL6.out.size; have := HBR.out; omega))), by have := HL6.out.size; have := HBR.out; simp; omega⟩, by simp [intOf]; omega⟩
        · have hkd : decide ((k : Int) < 3) = false := by simp; omega
          go_wp2_with (go_at_call 14; with_reducible refine (known_call _).mono ?_; rintro e w5 ⟨rfl, hb5⟩)
          go_ret
          exact ⟨rfl, by rw [HBR.out]; exact HBEL.out.trans (hb5.mono hbrw)⟩
end Go.Proofs.Ytpcocfdgcihpdaa.rdw
