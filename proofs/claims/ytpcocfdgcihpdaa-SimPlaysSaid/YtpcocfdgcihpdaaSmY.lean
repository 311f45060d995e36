/-
  carafelaw20.SimPlays: both machines step alike.
-/
import Derived.Test.YtpcocfdgcihpdaaSmX
set_option maxHeartbeats 64000000
set_option maxRecDepth 1000000
set_option linter.unusedVariables false
set_option linter.unusedSimpArgs false
namespace Go.Proofs.Ytpcocfdgcihpdaa.rdw
open Go Go.RowKit Go.BigFrame
open Go.Proofs.Ytpcocfdgcihpdaa Go.Proofs.Ytpcocfdgcihpdaa.wr Go.Proofs.Ytpcocfdgcihpdaa.x86enc
def AJ (w : World) (ad : Option Addr) (n : Nat) (x : Nat → Int) : Prop := ∀ i, i < n → ∃ b off, ad = some ⟨b, off, none⟩ ∧ b < w.heap.size ∧ w.cell? ⟨b, off + i, none⟩ = some (.int .i32 (x i)) ∧ I32 (x i)
theorem law8 (ad : Option Addr) (n cap : Nat) (O A X M : Nat → Int) (hM : ∀ i, i < n → I32 (M i)) (bd : Option Addr) (bn bcap : Nat) (x : List Int) (R : Nat → Int) (hR : ∀ r, r < 16 → I32 (R r)) (wd : Option Addr) (wn wcap : Nat) (y : Nat → Int) (steps : Int) (hst : -9223372036854775808 ≤ steps ∧ steps ≤ 9223372036854775807) (w : World)
    (hI : ∀ l, l ≤ n → Ins w w.heap.size ad l O A X M) (hX : Arr w bd bn bcap x) (hY : AJ w wd wn y) (hwn : wn ≤ wcap) :
    Calls Try.prog 8 #[.slice ad n cap, .slice bd bn bcap, .agg (rvs R).toArray, .slice wd wn wcap, .int .i64 steps] w fun e w' => e = .returned (.bool true) ∧ Below w.heap.size w w' := by
  obtain ⟨i0, hi, hz0, hz1, hz2⟩ := info_parts info5
  have hI := hI n (Nat.le_refl _)
  have HI := Lib.hid hI; clear hI
  have HMM := Lib.hid hM; clear hM
  have HRR := Lib.hid hR; clear hR
  have HX := Lib.hid hX; clear hX
  have HY := Lib.hid hY; clear hY
  have HST := Lib.hid hst; clear hst
  go_enter Try.func8, Try.ntmps8
  go_upto_if 28 with fail
  have hb1 : Below w.heap.size w (w.alloc (.cells (rvs R).toArray 42)) := (Below.refl _ _).alloc (Nat.le_refl _) _
  have hins := HI.out.mono hb1 hb1.size
  have hbox : Box42 (w.alloc (.cells (rvs R).toArray 42)) w.heap.size R := ⟨heap_alloc_new _ _⟩
  have hlt := block_lt hbox.h
  have hx1 := HX.out.mono hb1
  have hylt : ∀ i, i < wn → ∃ b off, wd = some ⟨b, off, none⟩ ∧ b < w.heap.size ∧ w.cell? ⟨b, off + i, none⟩ = some (.int .i32 (y i)) ∧ I32 (y i) := HY.out
  generalize w.alloc (.cells (rvs R).toArray 42) = w1 at *
  obtain ⟨br, hbr⟩ : ∃ br, w.heap.size = br := ⟨_, rfl⟩
  rw [hbr] at hbox hlt hb1 hylt ⊢
  have HBR := Lib.hid hbr; clear hbr
  have HINS := Lib.hid hins; clear hins
  have HBOX := Lib.hid hbox; clear hbox
  have HB1 := Lib.hid hb1; clear hb1
  have HX1 := Lib.hid hx1; clear hx1
  have HYL := Lib.hid hylt; clear hylt HX HY HI
  have hcle := fun k => cat_le (fun i => encB (O i) (A i) (X i) (M i)) (fun i => enc_short _ _ _ _) k
  have HCLE := Lib.hid hcle; clear hcle
  go_cut [1] (fun l wx => ∃ p : Nat, p ≤ 12 ∧ p ≤ bn ∧ l = .slice bd p bcap ∧ w1 = wx)
  case first =>
    by_cases h12 : 12 < bn
    · obtain ⟨q1, q2, q3, q4, q5⟩ := HX1.out
      obtain ⟨b, off, rfl, _⟩ := q5 (by omega)
      have hc12 : 12 ≤ bcap := by omega
      have hd : decide ((12 : Int) < (bn : Int)) = true := by simp; omega
      go_wp2_with fail
      go_meet
      case rel => exact ⟨12, by omega, by omega, rfl, rfl⟩
    · have hd : decide ((12 : Int) < (bn : Int)) = false := by simp; omega
      go_wp2_with fail
      go_meet
      case rel => exact ⟨bn, by omega, by omega, rfl, rfl⟩
  case rest =>
    obtain ⟨p, hp1, hp2, rfl, rfl⟩ := hcut
    obtain ⟨xs, hxs⟩ : ∃ xs, x.take p = xs := ⟨_, rfl⟩
    have hx1 := HX1.out
    have hxl : xs.length = p := by rw [← hxs, List.length_take]; have := hx1.1; omega
    have hxb : RD.isBytes xs := fun v hv => hx1.2.2.2.1 v (List.mem_of_mem_take (by rw [hxs]; exact hv))
    have hxr : xs = [] ∨ ∃ b off, bd = some ⟨b, off, none⟩ ∧ b < w1.heap.size ∧ ∀ j, j < xs.length → w1.cell? ⟨b, off + j, none⟩ = some (.int .u8 (xs.getD j 0)) := by
      by_cases hp0 : p = 0
      · exact .inl (List.eq_nil_of_length_eq_zero (by omega))
      · obtain ⟨b, off, e, hrow⟩ := hx1.2.2.2.2 (by omega)
        refine .inr ⟨b, off, e, hrow.1, fun j hj => ?_⟩
        rw [hrow.2 j (by have := hx1.1; omega), ← hxs]
        simp only [List.getD]
        rw [List.getElem?_take_of_lt (by omega)]
    clear hxs hx1
    subst hxl
    have HXR := Lib.hid hxr; have HXB := Lib.hid hxb
    clear hxr hxb HX1
    go_upto_if 37 with (first
      | (go_at_call 10; (with_reducible refine (code10 ad n cap O A X M w1 HINS.out).mono ?_); rintro e w2 ⟨mm, vb, q1, q2, q3, rfl, hob, hb2⟩; have hcb := cat_b (fun i => encB (O i) (A i) (X i) (M i)) mm (fun i hi => enc_b _ _ _ _ (HMM.out i (by omega))); have hcl := HCLE.out mm; obtain ⟨cs, hcs⟩ : ∃ cs, cat (fun i => encB (O i) (A i) (X i) (M i)) mm = cs := ⟨_, rfl⟩; rw [hcs] at hob hcb hcl; have HOB := Lib.hid hob; have HB2 := Lib.hid hb2; have HCB := Lib.hid hcb; clear hob hb2 hcb hcs)
      | (at_builtin; refine wpList_append_raw rfl _ _ rfl w1 cs xs vb rfl HOB.out HB2.out bd bcap rfl HXR.out (by omega) ?_; intro v3 w3 hv3 hb3; have HV3 := Lib.hid hv3; have HB3 := Lib.hid hb3; clear hv3 hb3))
    have hbb : RD.isBytes (cs ++ xs) := fun v hv => (List.mem_append.1 hv).elim (HCB.out v) (HXB.out v)
    have hbl : (cs ++ xs).length ≤ 700 := by rw [List.length_append]; omega
    obtain ⟨bs, hbs⟩ : ∃ bs, cs ++ xs = bs := ⟨_, rfl⟩
    rw [hbs] at hbb hbl HV3
    have HBB := Lib.hid hbb
    clear hbb hbs HCB HXB HXR HOB HB2 hcl q1 q2 q3
    go_cut [3] (fun l wx => ∃ q : Nat, q ≤ 20 ∧ q ≤ wn ∧ l = .slice wd q wcap ∧ w3 = wx)
    case first =>
      by_cases h12 : 20 < wn
      · obtain ⟨b, off, rfl, _⟩ := HYL.out 0 (by omega)
        have hc12 : 20 ≤ wcap := by omega
        have hd : decide ((20 : Int) < (wn : Int)) = true := by simp; omega
        go_wp2_with fail
        go_meet
        case rel => exact ⟨20, by omega, by omega, rfl, rfl⟩
      · have hd : decide ((20 : Int) < (wn : Int)) = false := by simp; omega
        go_wp2_with fail
        go_meet
        case rel => exact ⟨wn, by omega, by omega, rfl, rfl⟩
    case rest =>
      obtain ⟨q, hq1, hq2, rfl, rfl⟩ := hcut
      go_wp2_with (first
        | (go_at_call 9; (with_reducible refine (newQ9 bs w1.heap.size v3 q w3 HB3.out.size HV3.out HBB.out (by omega) (by omega)).mono ?_); rintro e w4 ⟨g, gr, gw, gb, cb, rfl, hsim, hsp, hb4⟩; have HSIM := Lib.hid hsim; have HSP := Lib.hid hsp; have HB4 := Lib.hid hb4; have hl3 := HB3.out.size; have hl4 := hb4.size; clear hsim hsp hb4)
        | (go_at_call 17; (with_reducible refine (newQ17 bs w1.heap.size v3 q w4 (by omega) (own_below HV3.out HB4.out) HBB.out (by omega) (by omega)).mono ?_); rintro e w5 ⟨h, hk, hw, hb, cc, rfl, href, hek, hsp, hb5⟩; have HREF := Lib.hid href; have HSP2 := Lib.hid hsp; have HEK := Lib.hid hek; have HB5 := Lib.hid hb5; have hl5 := hb5.size; clear href hsp hek hb5))
      obtain ⟨sl1, sh1⟩ := HSP.out
      obtain ⟨sl2, sh2⟩ := HSP2.out
      have AP : Apart br w4.heap.size g gr gw gb h hk hw hb bs := ⟨by omega, ⟨sh1.1, sh1.2.1, sh1.2.2.1, sh1.2.2.2⟩, sl2, HEK.out⟩
      have TW : Two w5 g gr gw gb cb h hk hw hb cc bs (mw q) 0 := ⟨HSIM.out.keepT (Only.below (S := []) HB5.out) (by simp) (by simp), HREF.out⟩
      have BX : Box42 w5 br R := ((HBOX.out.keep (Only.below (S := []) HB3.out) (by simp)).keep (Only.below (S := []) HB4.out) (by simp)).keep (Only.below (S := []) HB5.out) (by simp)
      have hbel : Below br w w5 := ((HB1.out.trans (HB3.out.mono (by omega))).trans (HB4.out.mono (by omega))).trans (HB5.out.mono (by omega))
      have HAP := Lib.hid AP; clear AP
      have HTW := Lib.hid TW; clear TW
      have HBX := Lib.hid BX; clear BX
      have HBEL := Lib.hid hbel; clear hbel
      clear sl1 sh1 sl2 sh2 HSP HSP2 HSIM HREF HEK HBOX HB1 HB3 HB4 HB5 HV3 HBB HINS hl3 hl4 hl5 HCLE hbl
      go_loopw [15] (fun s wq => ∃ i : Nat, i ≤ 16 ∧ s = .int .i64 i ∧ Hid (∃ m1, Two wq g gr gw gb cb h hk hw hb cc bs m1 0 ∧ m1.W.length = q ∧ Z45 m1) ∧ Hid (Box42 wq br R) ∧ Hid (Below br w wq)) (fun s _ => 16 - (intOf s).toNat)
      case atStart => exact ⟨0, Nat.zero_le _, rfl, Lib.hid ⟨_, HTW.out, by simp [mw], rfl, rfl⟩, HBX, HBEL⟩
      case round =>
        clear HTW HBX HBEL
        obtain ⟨i, hi, rfl, HTW, HBX, HBEL⟩ := hrel
        have hA := HAP.out
        have hbrw : br ≤ wr.heap.size := by have := block_lt HBX.out.h; omega
        by_cases hi1 : i < 16
        · obtain ⟨m1, hT, hWl, hz⟩ := HTW.out
          have hkd : decide ((i : Int) < 16) = true := by simp; omega
          have hi' : (i : Int) < 16 := by omega
          have hc := HBX.out.cell hi1
          have C := setRegQ g gr gw gb cb bs m1 i hi1 (R i) (HRR.out i hi1) wr hT.sim
          have HT1 := Lib.hid hT; clear hT
          have HWl := Lib.hid hWl; clear hWl
          have HZ := Lib.hid hz; clear hz
          by_cases hx : RD.reg (i : Int) = true
          · as_aux_lemma =>
              rw [if_pos hx, if_pos hx] at C
              have hn45 : (i : Int) ≠ 4 ∧ (i : Int) ≠ 5 := by have := (RD.reg_iff _).1 hx; omega
              have x4 : ((i : Int) == 4) = false := by simp; omega
              have x5 : ((i : Int) == 5) = false := by simp; omega
              have HC := Lib.hid C; clear C
              have hA := Lib.hid hA
              go_upto_region 17 with (go_at_call 12; (with_reducible refine HC.out.mono ?_); rintro e w5 ⟨rfl, h5, ho5⟩; have H5 := Lib.hid h5; have HO5 := Lib.hid ho5; clear h5 ho5)
              have hr5 := HT1.out.ref.keepT HO5.out (by have := hA.out.sim; have := hA.out.lo; have := hA.out.hi; simp; omega)
              have hoth := hr5.other.2
              have hb5 := HBX.out.keep HO5.out (by have := hA.out.box; simp; omega)
              obtain ⟨⟨cv, kv, hm5⟩, _⟩ := hr5.facts
              have c5 := hb5.cell hi1
              have g5 := hm5.cell (1 + i) (nc_reg cv _ kv _ 0 hi1)
              have f5 := hm5.froz (1 + i)
              have hr6 := refSetR hr5 hi1 (HRR.out i hi1)
              have HR6 := Lib.hid hr6; clear hr6 hm5
              have HB5 := Lib.hid hb5; clear hb5 hr5 hc
              have HOTH := Lib.hid hoth; clear hoth
              go_region
              have ho6 : Only [h] w5 ((w5.setCell ⟨h, 1 + i, none⟩ (.int .i32 (R i))).drew) := ((Only.refl _ _).set _ (by simp)).drew
              have hr7 : RefQ ((w5.setCell ⟨h, 1 + i, none⟩ (.int .i32 (R i))).drew) h hk hw hb cc bs { m1 with R := upd m1.R i (R i) } 0 := HR6.out.drewN 1
              have hs7 := H5.out.keepT ho6 (by have := hA.out.lo; have := hA.out.hi; simp; omega) (by
                intro q hq
                simp only [List.mem_cons, List.not_mem_nil, or_false] at hq
                subst hq
                exact HOTH.out _ (by simp))
              have hb7 := HB5.out.keep ho6 (by have := hA.out.box; have := hA.out.lo; have := hA.out.hi; simp; omega)
              have hbel7 : Below br w ((w5.setCell ⟨h, 1 + i, none⟩ (.int .i32 (R i))).drew) := HBEL.out.trans ((HO5.out.mono (T := [g, h]) (by simp)).trans (ho6.mono (T := [g, h]) (by simp)) |>.below_of (by have := hA.out.box; have := hA.out.lo; have := hA.out.hi; intro c hc; simp at hc; omega) hbrw)
              have HT7 := Lib.hid (Two.mk hs7 hr7); have HB7 := Lib.hid hb7; have HL7 := Lib.hid hbel7
              clear hs7 hr7 hb7 hbel7 ho6 c5 g5 f5
              generalize (w5.setCell ⟨h, 1 + i, none⟩ (.int .i32 (R i))).drew = w7 at *
              go_wp2_with fail
              exact ⟨⟨i + 1, by omega, by go_num, Lib.hid ⟨_, HT7.out, HWl.out, (upd_ne (by omega)).trans HZ.out.1, (upd_ne (by omega)).trans HZ.out.2⟩, HB7, HL7⟩, by simp [intOf]; omega⟩
          · as_aux_lemma =>
              rw [if_neg hx, if_neg hx] at C
              have hn45 : (i : Int) = 4 ∨ (i : Int) = 5 := by
                have : ¬ (0 ≤ (i : Int) ∧ (i : Int) ≤ 15 ∧ (i : Int) ≠ 4 ∧ (i : Int) ≠ 5) := fun h => hx ((RD.reg_iff _).2 h)
                omega
              have HC := Lib.hid C; clear C
              obtain ⟨v4, x4⟩ : ∃ v4, ((i : Int) == 4) = v4 := ⟨_, rfl⟩
              obtain ⟨v5, x5⟩ : ∃ v5, ((i : Int) == 5) = v5 := ⟨_, rfl⟩
              have hv : v4 = true ∨ (v4 = false ∧ v5 = true) := by
                cases v4
                · refine .inr ⟨rfl, ?_⟩
                  have : (i : Int) ≠ 4 := by simpa using x4
                  rw [← x5]; simp; omega
                · exact .inl rfl
              have fin : ∀ w5, Only [g] wr w5 → SimQ w5 g gr gw gb cb bs m1 → Hid (∃ m1, Two w5 g gr gw gb cb h hk hw hb cc bs m1 0 ∧ m1.W.length = q ∧ Z45 m1) ∧ Hid (Box42 w5 br R) ∧ Hid (Below br w w5) := fun w5 ho5 h5 =>
                ⟨Lib.hid ⟨m1, ⟨h5, HT1.out.ref.keepT ho5 (by have := hA.lo; have := hA.hi; simp; omega)⟩, HWl.out, HZ.out⟩, Lib.hid (HBX.out.keep ho5 (by have := hA.box; simp; omega)), Lib.hid (HBEL.out.trans (ho5.below_of (by have := hA.box; intro c hc; simp at hc; omega) hbrw))⟩
              have FIN := Lib.hid fin; clear fin
              rcases hv with rfl | ⟨rfl, rfl⟩
              · go_wp2_with (go_at_call 12; (with_reducible refine HC.out.mono ?_); rintro e w5 ⟨rfl, h5, ho5⟩; have H5 := Lib.hid (FIN.out w5 ho5 h5); clear h5 ho5)
                exact ⟨⟨i + 1, by omega, by go_num, H5.out⟩, by simp [intOf]; omega⟩
              · go_wp2_with (go_at_call 12; (with_reducible refine HC.out.mono ?_); rintro e w5 ⟨rfl, h5, ho5⟩; have H5 := Lib.hid (FIN.out w5 ho5 h5); clear h5 ho5)
                exact ⟨⟨i + 1, by omega, by go_num, H5.out⟩, by simp [intOf]; omega⟩
        · as_aux_lemma =>
            have hkd : decide ((i : Int) < 16) = false := by simp; omega
            clear hi hi1 HBX hbrw
            go_wp2_with fail
            go_loopw [17] (fun s wq => ∃ j : Nat, j ≤ q ∧ s = .int .i64 j ∧ Hid (∃ m1, Two wq g gr gw gb cb h hk hw hb cc bs m1 0 ∧ m1.W.length = q ∧ Z45 m1) ∧ Hid (Below br w wq) ∧ br ≤ wq.heap.size) (fun s _ => q - (intOf s).toNat)
            case atStart => exact ⟨0, Nat.zero_le _, rfl, HTW, HBEL, by have := HBEL.out.size; have := HBR.out; omega⟩
            case round =>
              clear HTW HBEL
              obtain ⟨j, hj, rfl, HTW, HBEL, hbrw⟩ := hrel
              by_cases hj1 : j < q
              · as_aux_lemma =>
                  obtain ⟨m1, hT, hWl, hz⟩ := HTW.out
                  have hkd : decide ((j : Int) < (q : Int)) = true := by simp; omega
                  obtain ⟨b, off, rfl, hbl, hcell, hyr⟩ := HYL.out j (by omega)
                  have hcw := (HBEL.out.cell (p := ⟨b, off + j, none⟩) hbl).trans hcell
                  clear hcell
                  have C := setWordQ g gr gw gb cb bs m1 j (y j) hyr wr hT.sim (by omega)
                  have hoth0 := hT.ref.other.2
                  have HC := Lib.hid C; clear C
                  have HA := Lib.hid hA; clear hA
                  have HT1 := Lib.hid hT; clear hT
                  have HYR := Lib.hid hyr; clear hyr
                  have HWl := Lib.hid hWl
                  go_upto_region 22 with (go_at_call 20; (with_reducible refine HC.out.mono ?_); rintro e w6 ⟨rfl, h6, ho6⟩; have H6 := Lib.hid h6; have HO6 := Lib.hid ho6; clear h6 ho6)
                  have hr6 := HT1.out.ref.keepT HO6.out (by have := HA.out.sim; have := HA.out.lo; have := HA.out.hi; simp; omega)
                  have hoth := hr6.other.2
                  obtain ⟨⟨cv, kv, hm6⟩, hw6, hd6, _⟩ := hr6.facts
                  have g17 := hm6.cell 17 rfl
                  have gwj := hw6.cell j (by omega)
                  have fwj := hw6.froz j
                  have hcw6 : w6.cell? ⟨b, off + j, none⟩ = some (.int .i32 (y j)) := by
                    have e6 := HO6.out.same b (by omega) (by have := HA.out.box; simp; omega)
                    have : w6.cell? ⟨b, off + j, none⟩ = wr.cell? ⟨b, off + j, none⟩ := by simp only [World.cell?, e6]
                    rw [this]; exact hcw
                  have hr7 := refSetW (i := j) hr6 HYR.out
                  rw [hWl] at g17
                  have HR7 := Lib.hid hr7; have HOTH := Lib.hid hoth
                  have hjl : (j : Int) < (q : Int) := by omega
                  clear hr7 hr6 hm6 hw6 hoth hoth0 hcw
                  go_region
                  have ho7 : Only [hw] w6 ((w6.setCell ⟨hw, j, none⟩ (.int .i32 (y j))).drew) := ((Only.refl _ _).set _ (by simp)).drew
                  have hr8 : RefQ ((w6.setCell ⟨hw, j, none⟩ (.int .i32 (y j))).drew) h hk hw hb cc bs { m1 with W := m1.W.set j (y j) } 0 := HR7.out.drewN 1
                  have hs8 := H6.out.keepT ho7 (by have := HA.out.lo; have := HA.out.hi; simp; omega) (by
                    intro q hq
                    simp only [List.mem_cons, List.not_mem_nil, or_false] at hq
                    subst hq
                    exact HOTH.out _ (by simp))
                  have hbel8 : Below br w ((w6.setCell ⟨hw, j, none⟩ (.int .i32 (y j))).drew) := HBEL.out.trans ((HO6.out.mono (T := [gw, hw]) (by simp)).trans (ho7.mono (T := [gw, hw]) (by simp)) |>.below_of (by have := HA.out.box; have := HA.out.lo; have := HA.out.hi; intro c hc; simp at hc; omega) hbrw)
                  have hsz : br ≤ ((w6.setCell ⟨hw, j, none⟩ (.int .i32 (y j))).drew).heap.size := by have := hbel8.size; have := HBR.out; omega
                  have HT8 := Lib.hid (Two.mk hs8 hr8); have HL8 := Lib.hid hbel8
                  clear hs8 hr8 hbel8 ho7 g17 gwj fwj hcw6
                  generalize (w6.setCell ⟨hw, j, none⟩ (.int .i32 (y j))).drew = w8 at *
                  go_wp2_with fail
                  exact ⟨⟨j + 1, by omega, by go_num, Lib.hid ⟨_, HT8.out, by simp only [List.length_set]; exact HWl.out, hz⟩, HL8, hsz⟩, by simp [intOf]; omega⟩
              · as_aux_lemma =>
                  have hkd : decide ((j : Int) < (q : Int)) = false := by simp; omega
                  clear hj
                  go_upto_if 110 with fail
                  go_cut [4] (fun v wx => ∃ st : Nat, st ≤ 9223372036854775807 ∧ v = .int .i64 (st : Int) ∧ wr = wx)
                  case first =>
                    have hst := HST.out
                    by_cases hs0 : steps < 0
                    · have hd : decide (steps < 0) = true := decide_eq_true hs0
                      have e1 : IntKind.i64.wrap (steps + 1) = steps + 1 := by rw [IntKind.wrap_i64]; omega
                      have e2 : IntKind.i64.wrap (-(steps + 1)) = -(steps + 1) := by rw [IntKind.wrap_i64]; omega
                      go_wp2_with fail
                      go_meet
                      case rel => exact ⟨(-(steps + 1)).toNat, by omega, by congr 1; omega, rfl⟩
                    · have hd : decide (steps < 0) = false := decide_eq_false hs0
                      go_wp2_with fail
                      go_meet
                      case rel => exact ⟨steps.toNat, by omega, by congr 1; omega, rfl⟩
                  case rest =>
                    obtain ⟨st, hst, rfl, rfl⟩ := hcut
                    obtain ⟨T, hT⟩ : ∃ T : Nat, T = st % 60 := ⟨_, rfl⟩
                    have hT60 : T < 60 := by omega
                    have eT : (st : Int).tmod 60 = (T : Int) := by rw [hT, Int.tmod_eq_emod_of_nonneg (by omega)]; omega
                    have eW : IntKind.i64.wrap ((T : Int) + 1) = (T : Int) + 1 := by rw [IntKind.wrap_i64]; omega
                    clear hT
                    go_wp2_with fail
                    go_loopw [18] (fun s wq => ∃ k : Nat, k ≤ 60 ∧ s = .int .i64 k ∧ Hid (∃ m1 l1, Two wq g gr gw gb cb h hk hw hb cc bs m1 l1 ∧ m1.W.length = q ∧ Z45 m1) ∧ Hid (Below br w wq) ∧ br ≤ wq.heap.size) (fun s _ => (intOf s).toNat)
                    case atStart => exact ⟨T + 1, by omega, by go_num, Lib.hid (by obtain ⟨m1, h1⟩ := HTW.out; exact ⟨m1, 0, h1⟩), HBEL, hbrw⟩
                    case round =>
                      clear HTW HBEL hbrw
                      obtain ⟨k, hk60, rfl, HTW, HBEL, hbrw⟩ := hrel
                      by_cases hk0 : 0 < k
                      · as_aux_lemma =>
                          obtain ⟨m1, l1, hT, hWl, hz⟩ := HTW.out
                          have hkd : decide ((0 : Int) < (k : Int)) = true := by simp; omega
                          have HT1 := Lib.hid hT; clear hT
                          have HWl := Lib.hid hWl; clear hWl
                          have HZ := Lib.hid hz; clear hz
                          have HA := Lib.hid hA; clear hA HTW
                          have S23 := Lib.hid (fun (W : World) (hq : SimQ W g gr gw gb cb bs m1) => stepQ g gr gw gb cb bs m1 W hq)
                          have S25 := Lib.hid (fun (W : World) (hq : RefQ W h hk hw hb cc bs m1 l1) => stepR h hk hw hb cc bs m1 l1 W hq)
                          go_wp2_with fail
                          refine wp_region_any (by kernel_rfl) ?_
                          change wpAny _ _ _ _ _ _ _ (World.drew _)
                          refine wpAny_take (i := 0) (v := ptr g) rfl (by kernel_rfl) (by kernel_rfl) (by kernel_rfl) (fun _ _ _ h => h) (Or.inl ⟨by rfl, fun w => by go_simp⟩) ?_
                          refine wpAny_take (i := 2) (v := ptr h) rfl (by kernel_rfl) (by kernel_rfl) (by kernel_rfl) (fun _ _ _ h => h) (Or.inl ⟨by rfl, fun w => by go_simp⟩) ?_
                          refine wpAny_ready (rs := [1]) (by kernel_rfl) (by simp) (AllReady.cons rfl (fun K hK => ?_) AllReady.nil)
                          go_simp
                          go_at_call 23
                          refine (S23.out _ (show SimQ wr.drew g gr gw gb cb bs m1 from HT1.out.sim.drewN 1)).mono ?_
                          rintro e w6 ⟨m2, s2, rfl, hn2, hs6, hwl6, ho6⟩
                          try go_simp
                          refine hK _ _ ?_
                          clear hK K
                          have hr6 : RefQ w6 h hk hw hb cc bs m1 l1 := (show RefQ wr.drew h hk hw hb cc bs m1 l1 from HT1.out.ref.drewN 1).keepT ho6 (by have := HA.out.lo; have := HA.out.hi; simp; omega)
                          have HR6 := Lib.hid hr6; have HS6 := Lib.hid hs6; have HO6 := Lib.hid ho6; have HN2 := Lib.hid hn2; have HW6 := Lib.hid hwl6
                          clear hr6 hs6 ho6 hn2 hwl6
                          refine wpAny_ready (rs := [3]) (by kernel_rfl) (by simp) (AllReady.cons rfl (fun K hK => ?_) AllReady.nil)
                          go_simp
                          go_at_call 25
                          refine (S25.out _ HR6.out).mono ?_
                          rintro e w7 ⟨m3, s3, rfl, hn3, hr7, hwl7, ho7⟩
                          obtain ⟨rfl, rfl⟩ := next_unique HN2.out hn3
                          try go_simp
                          refine hK _ _ ?_
                          clear hK K
                          have HS7 := Lib.hid (HS6.out.keepT ho7 (by have := HA.out.lo; have := HA.out.hi; simp; omega) (HR6.out.other3 HA.out.ek))
                          have HR7 := Lib.hid hr7; have HO7 := Lib.hid ho7
                          clear hn3 hr7 hwl7 ho7
                          obtain ⟨⟨cv, kv, hm7⟩, _⟩ := HR7.out.facts
                          obtain ⟨⟨cv', rv', op', a', b', n', hs7⟩, _⟩ := HS7.out.facts
                          have c18 := hm7.cell 18 rfl
                          have c22 := hm7.cell 22 rfl
                          have A19 := Lib.hid (fun j : Nat => at19 g cv' rv' _ m2 op' a' b' n' (w7.drewN j) ⟨hs7.h⟩)
                          have A21 := Lib.hid (fun j : Nat => codeN21b g cv' rv' _ m2 op' a' b' n' (w7.drewN j) ⟨hs7.h⟩)
                          have HM7 := Lib.hid hm7; have HSM7 := Lib.hid hs7
                          clear hm7 hs7
                          refine wpAny_quiet4 rfl (by kernel_rfl) (by kernel_rfl) ?_
                          repeat (go_big_quiet_step (first
                            | (go_at_call 19; refine Calls.quiet_of_same (A19.out _))
                            | (go_at_call 21; refine Calls.quiet_of_same (A21.out _))))
                          refine wpQuiet_nil ?_
                          intro wq hwq
                          obtain ⟨nq, rfl⟩ := hwq
                          clear c18 c22
                          have c19 := HM7.out.cell 19 rfl
                          have c20 := HM7.out.cell 20 rfl
                          have c21 := HM7.out.cell 21 rfl
                          have F24 := Lib.hid (fun j : Nat => flags24 g cv' rv' _ m2 op' a' b' n' (w7.drewN j) ⟨HSM7.out.h⟩)
                          go_wp2_with (go_at_call 24; (with_reducible refine (F24.out _).mono ?_); rintro e w8 ⟨rfl, j8, rfl⟩)
                          clear c19 c20 c21
                          have hz2 : Z45 m2 := next_45 HN2.out HZ.out
                          have A16 := Lib.hid (fun (W : World) (hW : SMem W g cv' rv' (wsl gw m2.W.length) m2 op' a' b' n') (r : Nat) (hr : r < 16) => reg16Z g cv' rv' _ m2 op' a' b' n' hz2 r hr W hW)
                          have hbel7 : Below br w w7 := HBEL.out.trans ((show Only [g, gr, gw, h, hk, hw] wr w7 from ((only_drewN _ wr 1).trans ((HO6.out.mono (T := [g, gr, gw, h, hk, hw]) (by simp)).trans (HO7.out.mono (T := [g, gr, gw, h, hk, hw]) (by simp))))).below_of (by have := HA.out.box; have := HA.out.lo; have := HA.out.hi; intro c hc; simp at hc; omega) hbrw)
                          have HL7 := Lib.hid hbel7; clear hbel7
                          have HZ2 := Lib.hid hz2; clear hz2
                          go_loopw [22] (fun s wq => ∃ i2 j2 : Nat, i2 ≤ 16 ∧ s = .int .i64 i2 ∧ wq = w7.drewN j2) (fun s _ => 16 - (intOf s).toNat)
                          case atStart => exact ⟨0, nq + j8, Nat.zero_le _, rfl, by first | rfl | rw [drewN2]⟩
                          case round =>
                            obtain ⟨i2, j2, hi2, rfl, rfl⟩ := hrel
                            by_cases hi3 : i2 < 16
                            · as_aux_lemma =>
                                have hkd2 : decide ((i2 : Int) < 16) = true := by simp; omega
                                have hi' : (i2 : Int) < 16 := by omega
                                have hmz : NMem (w7.drewN j2) h cv (wsl hw m2.W.length) kv m2 _ := ⟨HM7.out.h⟩
                                have hsz : SMem (w7.drewN j2) g cv' rv' (wsl gw m2.W.length) m2 op' a' b' n' := ⟨HSM7.out.h⟩
                                obtain ⟨wz, hwz⟩ : ∃ wz, w7.drewN j2 = wz := ⟨_, rfl⟩
                                rw [hwz] at hmz hsz ⊢
                                have gi := hmz.cell (1 + i2) (nc_reg cv _ kv m2 _ hi3)
                                have HWZ := Lib.hid hwz; have HSZ := Lib.hid hsz
                                clear hwz hmz hsz
                                go_wp2_with fail
                                have A16' := Lib.hid (fun j : Nat => A16.out (wz.drewN j) ⟨HSZ.out.h⟩ i2 hi3)
                                go_quiet ((go_at_call 16; refine Calls.quiet_of_same (A16'.out _)))
                                go_wp2_with fail
                                exact ⟨⟨i2 + 1, j2 + nq, by omega, by go_num, by rw [← HWZ.out, drewN2]⟩, by simp [intOf]; omega⟩
                            · as_aux_lemma =>
                                have hkd2 : decide ((i2 : Int) < 16) = false := by simp; omega
                                have eK : IntKind.i64.wrap ((k : Int) - 1) = ((k - 1 : Nat) : Int) := by rw [IntKind.wrap_i64]; omega
                                go_wp2_with fail
                                exact ⟨⟨k - 1, by omega, by first | rfl | go_num | (congr 1; omega), Lib.hid ⟨m2, s2, ⟨HS7.out.drewN _, HR7.out.drewN _⟩, HW6.out.trans HWl.out, HZ2.out⟩, Lib.hid (HL7.out.trans (Only.below_of (only_drewN [] _ _) (by simp) (by have := HL7.out.size; have := HBR.out; omega))), by have := HL7.out.size; have := HBR.out; simp; omega⟩, by simp [intOf]; omega⟩
                      · as_aux_lemma =>
                          have hkd : decide ((0 : Int) < (k : Int)) = false := by simp; omega
                          obtain ⟨m1, l1, hT, hWl, hz⟩ := HTW.out
                          obtain ⟨⟨cv, kv, hm7⟩, hwm, _⟩ := hT.ref.facts
                          obtain ⟨⟨cv', rv', op', a', b', n', hs7⟩, hwm', _⟩ := hT.sim.facts
                          rw [hWl] at hm7 hs7
                          have HM7 := Lib.hid hm7; have HSM7 := Lib.hid hs7; have HWM := Lib.hid hwm; have HWM' := Lib.hid hwm'
                          have HWl := Lib.hid hWl
                          clear hm7 hs7 hwm hwm' hT hWl hz HTW
                          go_wp2_with fail
                          go_loopw [23] (fun s wq => ∃ i2 j2 : Nat, i2 ≤ q ∧ s = .int .i64 i2 ∧ wq = wr.drewN j2) (fun s _ => q - (intOf s).toNat)
                          case atStart => exact ⟨0, 0, Nat.zero_le _, rfl, rfl⟩
                          case round =>
                            obtain ⟨i2, j2, hi2, rfl, rfl⟩ := hrel
                            by_cases hi3 : i2 < q
                            · as_aux_lemma =>
                                have hkd2 : decide ((i2 : Int) < (q : Int)) = true := by simp; omega
                                have hi' : (i2 : Int) < (q : Int) := by omega
                                have g17 := HM7.out.cell 17 rfl
                                have gw2 := HWM.out.cell i2 (by have := HWl.out; omega)
                                have F22 := Lib.hid (fun j : Nat => word22b g gw cv' rv' m1 op' a' b' n' i2 q m1.W HWl.out hi3 (wr.drewN j) ⟨HSM7.out.h⟩ ⟨HWM'.out.h⟩)
                                go_wp2_with (go_at_call 22; (with_reducible refine (F22.out _).mono ?_); rintro e w8 ⟨rfl, rfl⟩)
                                exact ⟨⟨i2 + 1, j2, by omega, by go_num, rfl⟩, by simp [intOf]; omega⟩
                            · as_aux_lemma =>
                                have hkd2 : decide ((i2 : Int) < (q : Int)) = false := by simp; omega
                                go_wp2_with (go_at_call 14; with_reducible refine (known_call _).mono ?_; rintro e w9 ⟨rfl, hb9⟩)
                                go_ret
                                exact ⟨rfl, by rw [HBR.out]; exact (HBEL.out.trans (Only.below_of (only_drewN [] _ _) (by simp) hbrw)).trans (hb9.mono (by simpa using hbrw))⟩
end Go.Proofs.Ytpcocfdgcihpdaa.rdw
