/-
  SimTraps answers true: behind each trap the machine goes on where it was; words and registers stay.
-/
import Derived.Test.YtpcocfdgcihpdaaSmH
namespace Go.Proofs.Ytpcocfdgcihpdaa.rdw
open Go Go.RowKit Go.BigFrame
open Go.Proofs.Ytpcocfdgcihpdaa Go.Proofs.Ytpcocfdgcihpdaa.wr Go.Proofs.Ytpcocfdgcihpdaa.x86enc
set_option linter.unusedVariables false
set_option linter.unusedSimpArgs false
theorem info30 : (Try.prog.info? 30).map (fun i => (i.zero, i.size, i.bytes)) = some (some (.agg #[.int .i64 0, .int .i64 0, .int .i64 0, .int .i32 0]), 4, 32) := by kernel_rfl
/-- numbers that came in -/
def AI (w : World) (ad : Option Addr) (n : Nat) (x : Nat → Int) : Prop := ∀ i, i < n → ∃ b off, ad = some ⟨b, off, none⟩ ∧ b < w.heap.size ∧ w.cell? ⟨b, off + i, none⟩ = some (.int .i32 (x i)) ∧ I32 (x i)
theorem AI.mono {w w' : World} {ad : Option Addr} {n : Nat} {x : Nat → Int} (h : AI w ad n x) (hb : Below w.heap.size w w') : AI w' ad n x := by
  intro i hi
  obtain ⟨b, off, e, hlt, hc, hr⟩ := h i hi
  exact ⟨b, off, e, Nat.lt_of_lt_of_le hlt hb.size, (hb.cell hlt).trans hc, hr⟩
theorem newL (w : World) (l : List Value) (t : TypeId) : ∀ j u, l[j]? = some u → (w.alloc (.cells l.toArray t)).cell? ((⟨w.heap.size, 0, none⟩ : Addr).add j) = some u := by
  intro j u hj
  rw [Go.WideShapes.add_plain, World.cell?_alloc_at _ _ _ _ rfl]
  simpa using hj
theorem one_icells (L : List RD.Ins) : ∀ u ∈ icells L, u.oneCell' = true := by
  intro u hu
  simp only [icells, List.mem_flatMap] at hu
  obtain ⟨q, _, hq⟩ := hu
  simp only [List.mem_cons, List.not_mem_nil, or_false] at hq
  rcases hq with rfl | rfl | rfl | rfl <;> rfl
theorem own_snocL {w : World} {base e : Nat} {v : Value} {L M : List RD.Ins} {k : Nat} (hk : k = M.length) (h : w.ownsRow base e 4 v (L.length + k) (icells L ++ icells M)) : w.ownsRow base e 4 v (L ++ M).length (icells (L ++ M)) := by
  subst hk
  rw [List.length_append]
  have : icells (L ++ M) = icells L ++ icells M := by simp [icells]
  rw [this]; exact h
set_option maxHeartbeats 1600000 in
set_option maxRecDepth 1000000 in
theorem law6 (ad : Option Addr) (n cap : Nat) (x : Nat → Int) (bd : Option Addr) (nw bcap : Nat) (y : Nat → Int) (w : World) (hx : AI w ad n x) (hn : n ≤ cap) (hy : AI w bd nw y) (hnw : nw ≤ bcap) :
    Calls Try.prog 6 #[.slice ad n cap, .slice bd nw bcap] w fun e w' => e = .returned (.bool true) ∧ Below w.heap.size w w' := by
  obtain ⟨i0, hi, hz0, hz1, hz2⟩ := info_parts info30
  have HX := Lib.hid hx; clear hx
  have HY := Lib.hid hy; clear hy
  go_enter Try.func6, Try.ntmps6
  go_upto_if 21 with fail
  go_cut [0] (fun l wx => ∃ m : Nat, m ≤ 12 ∧ m ≤ n ∧ l = .slice ad m cap ∧ w = wx)
  case first =>
    by_cases h12 : 12 < n
    · obtain ⟨b, off, rfl, _⟩ := HX.out 0 (by omega)
      have hc12 : 12 ≤ cap := by omega
      have hd : decide ((12 : Int) < (n : Int)) = true := by simp; omega
      go_wp2_with fail
      go_meet
      case rel => exact ⟨12, by omega, by omega, rfl, rfl⟩
    · have hd : decide ((12 : Int) < (n : Int)) = false := by simp; omega
      go_wp2_with fail
      go_meet
      case rel => exact ⟨n, by omega, by omega, rfl, rfl⟩
  case rest =>
    obtain ⟨m, hm1, hm2, rfl, rfl⟩ := hcut
    go_upto_if 26 with fail
    go_cut [1] (fun l wx => ∃ m' : Nat, m' ≤ 10 ∧ m' ≤ nw ∧ l = .slice bd m' bcap ∧ w = wx)
    case first =>
      by_cases h10 : 10 < nw
      · obtain ⟨b, off, rfl, _⟩ := HY.out 0 (by omega)
        have hc10 : 10 ≤ bcap := by omega
        have hd : decide ((10 : Int) < (nw : Int)) = true := by simp; omega
        go_wp2_with fail
        go_meet
        case rel => exact ⟨10, by omega, by omega, rfl, rfl⟩
      · have hd : decide ((10 : Int) < (nw : Int)) = false := by simp; omega
        go_wp2_with fail
        go_meet
        case rel => exact ⟨nw, by omega, by omega, rfl, rfl⟩
    case rest =>
      obtain ⟨p, hp1, hp2, rfl, rfl⟩ := hcut
      go_wp2_with fail
      go_loopw [5, 6] (fun v s wq => ∃ k : Nat, k ≤ m ∧ s = .int .i64 k ∧ wq.ownsRow w.heap.size 30 4 v (prg x k).length (icells (prg x k)) ∧ Below w.heap.size w wq) (fun _ s _ => m - (intOf s).toNat)
      case atStart => exact ⟨0, Nat.zero_le _, rfl, World.ownsRow_nil _ _ _ _, Below.refl _ _⟩
      case round =>
        obtain ⟨k, hk, rfl, hown, hbel⟩ := hrel
        have hpl := prg_length x k
        by_cases hk1 : k < m
        · have hkd : decide ((k : Int) < (m : Int)) = true := by simp; omega
          obtain ⟨b, off, hbo, hb, hc, hr⟩ := HX.out k (by omega)
          subst hbo
          have hc1 := (hbel.cell (p := ⟨b, off + k, none⟩) hb).trans hc
          have ew : IntKind.i32.wrap (k : Int) = (k : Int) := by rw [IntKind.wrap_i32]; omega
          clear hc
          have hacc := hbel
          have hoa := hown
          go_wp2_with (first
            | (go_at_call 11; refine (in11 _ _ _ _ _).mono ?_; rintro e w1 ⟨rfl, hb1⟩; replace hacc := hacc.trans (hb1.mono hacc.size); replace hoa := own_below hoa hb1)
            | (at_builtin; refine wpList_append_own _ rfl _ _ 32 rfl w.heap.size 30 i0 (.agg #[.int .i64 0, .int .i64 0, .int .i64 0, .int .i32 0]) 4 32 Try.underlying32 hi hz0 hz1 hz2 rfl (by decide) _ _ _ rfl (hoa.alloc _) ⟨_, 0, none⟩ 3 3 (icells (body3 x k)) rfl rfl (newL _ _ _) (one_icells _) (by unfold maxLen; omega) (by omega) (by have := hacc.size; simp; omega) ?_; intro v2 w2 hv2 hgrow2 _; have hbel2 := (hacc.alloc hacc.size _).grown hgrow2 (by have := hacc.size; simp; omega) (fun j hj => (hoa.lt j hj).1); have HV := Lib.hid (own_snocL rfl hv2); clear hv2 hgrow2))
          exact ⟨⟨k + 1, by omega, by go_num, HV.out, hbel2⟩, by simp [intOf]; omega⟩
        · obtain rfl : k = m := by omega
          have hfit := all_fit x k hm1 (fun i hi => by obtain ⟨_, _, _, _, _, h⟩ := HX.out i (by omega); exact h)
          have hll : (prg x k ++ [ret]).length = 3 * k + 1 := by rw [List.length_append, prg_length]; rfl
          have hget := fun i hi => prg_get x [ret] k i hi
          have hlast := prg_last x ret k
          have hsn : ∀ (wz : World) (vz : Value), wz.ownsRow w.heap.size 30 4 vz ((prg x k).length + 1) (icells (prg x k) ++ icells [ret]) → wz.ownsRow w.heap.size 30 4 vz (prg x k ++ [ret]).length (icells (prg x k ++ [ret])) := fun wz vz h => own_snocL rfl h
          obtain ⟨L, hL⟩ : ∃ L, prg x k ++ [ret] = L := ⟨_, rfl⟩
          rw [hL] at hfit hll hlast hsn
          simp only [hL] at hget
          have hclen := cat_length L
          have hl37 : L.length ≤ 37 := by omega
          have hne : RD.cat L ≠ [] := by
            intro h0
            have := pl_le L 0 (by omega)
            have := (elen_pos (L.getD 0 d0)).1
            rw [h0] at *
            simp at *
            omega
          have HLL := Lib.hid hll; clear hll
          have HFit := Lib.hid hfit; have HGet := Lib.hid (And.intro hget hlast); have HSN := Lib.hid hsn; have HL := Lib.hid hL; have HNE := Lib.hid hne
          clear hfit hget hlast hsn hL hne hk
          have hacc := hbel
          have hoa := hown
          clear hown
          go_wp2_with (first
            | (go_at_call 11; refine (in11 _ _ _ _ _).mono ?_; rintro e w1 ⟨rfl, hb1⟩; replace hacc := hacc.trans (hb1.mono hacc.size); replace hoa := own_below hoa hb1)
            | (at_builtin; refine wpList_append_own _ rfl _ _ 32 rfl w.heap.size 30 i0 (.agg #[.int .i64 0, .int .i64 0, .int .i64 0, .int .i32 0]) 4 32 Try.underlying32 hi hz0 hz1 hz2 rfl (by decide) _ _ _ rfl (hoa.alloc _) ⟨_, 0, none⟩ 1 1 (icells [ret]) rfl rfl (newL _ _ _) (one_icells _) (by unfold maxLen; omega) (by omega) (by have := hacc.size; simp; omega) ?_; intro v2 w2 hv2 hgrow2 _; have hbel2 := (hacc.alloc hacc.size _).grown hgrow2 (by have := hacc.size; simp; omega) (fun j hj => (hoa.lt j hj).1); obtain ⟨lad, lcap, rfl, hins⟩ := own_insL (HSN.out _ _ hv2); have HINS := Lib.hid hins; clear hv2 hgrow2 hins hoa)
            | (go_at_call 10; with_reducible refine (code10 lad L.length lcap (fO L) (fA L) (fX L) (fM L) w2 HINS.out).mono ?_; rintro e w3 ⟨mm, vb, q1, q2, q3, rfl, hob, hb3⟩; obtain rfl : mm = L.length := (by omega); rw [cat_eq L HFit.out] at hob; have hbel3 := hbel2.trans (hb3.mono hbel2.size); have HOB := Lib.hid hob; clear hob)
            | (go_at_call 9; with_reducible refine (new9 (RD.cat L) w2.heap.size vb p w3 hb3.size HOB.out HNE.out (by omega) (by omega)).mono ?_; rintro e w4 ⟨g, gr, gw, gb, cb, rfl, hnewm, hb4⟩; have hbel4 := hbel3.trans (hb4.mono hbel3.size); have HNM := Lib.hid hnewm; clear hnewm))
          have SW0 : Hid (SimW w4 g gr gw gb cb (RD.cat L) { m0 with W := List.replicate p 0 }) := Lib.hid (SimW.start HNM.out (cat_bytes L HFit.out) (by omega))
          obtain ⟨lg, lgr, lgw, _⟩ := HNM.out.low
          have hs3 := hbel3.size
          have HLOW : Hid (∀ c ∈ [g, gr, gw], w.heap.size ≤ c) := Lib.hid (by
            intro c hc
            simp only [List.mem_cons, List.not_mem_nil, or_false] at hc
            rcases hc with rfl | rfl | rfl <;> omega)
          clear lg lgr lgw hs3 hacc hbel hbel2 hb3 hb4 HNM HOB HINS
          obtain ⟨bs, hbs⟩ : ∃ bs, RD.cat L = bs := ⟨_, rfl⟩
          rw [hbs] at SW0 hclen
          have HBS := Lib.hid hbs; clear hbs HNE
          go_loopw [9] (fun s wq => ∃ (i : Nat) (W : List Int), i ≤ p ∧ s = .int .i64 i ∧ W.length = p ∧ Hid (∀ j, j < i → W.getD j 0 = y j) ∧ Hid (SimW wq g gr gw gb cb bs { m0 with W := W }) ∧ Below w.heap.size w wq) (fun s _ => p - (intOf s).toNat)
          case atStart => exact ⟨0, List.replicate p 0, Nat.zero_le _, rfl, by simp, Lib.hid (fun j hj => by omega), SW0, hbel4⟩
          case round =>
            clear hbel4 SW0
            obtain ⟨i, W, hip, rfl, hWl, hWy, hSW, hbel⟩ := hrel
            by_cases hi1 : i < p
            · have hkd : decide ((i : Int) < (p : Int)) = true := by simp; omega
              obtain ⟨b, off, hbo, hb, hc, hr⟩ := HY.out i (by omega)
              subst hbo
              have hc1 := (hbel.cell (p := ⟨b, off + i, none⟩) hb).trans hc
              clear hc
              go_wp2_with (go_at_call 20; refine (setW g gr gw gb cb bs _ i (y i) _ hSW.out (by simp; omega)).mono ?_; rintro e w5 ⟨rfl, h5, ho5⟩; have H5 := Lib.hid h5; clear h5)
              refine ⟨⟨i + 1, W.set i (y i), by omega, by go_num, by simp; omega, Lib.hid (fun j hj => ?_), H5, hbel.trans ((ho5.below_of HLOW.out hbel.size).mono (Nat.le_refl _))⟩, by simp [intOf]; omega⟩
              by_cases hji : i = j
              · subst hji; simp [List.getD, show i < W.length by omega]
              · have := hWy.out j (by omega)
                simp only [List.getD] at this ⊢
                rw [List.getElem?_set_ne hji]; exact this
            · obtain rfl : i = p := by omega
              have hkd : decide ((i : Int) < (i : Int)) = false := by simp
              clear hip
              go_wp2_with fail
              go_loopw [10, 11] (fun s t wq => ∃ (i' : Nat) (mm : Mach) (s0 : Int), i' ≤ k ∧ t = .int .i64 i' ∧ s = .int .i32 s0 ∧ Hid (SimW wq g gr gw gb cb bs mm ∧ mm.over = 0 ∧ mm.at_ = ((pl L (3 * i') : Nat) : Int) ∧ mm.W = W ∧ mm.R 0 = s0) ∧ Below w.heap.size w wq) (fun _ t _ => k - (intOf t).toNat)
              case atStart => exact ⟨0, { m0 with W := W }, 0, Nat.zero_le _, rfl, rfl, Lib.hid ⟨hSW.out, rfl, by simp [pl, RD.cat, m0], rfl, rfl⟩, hbel⟩
              case round =>
                clear hSW hbel
                obtain ⟨i', mm, s0, hik, rfl, rfl, hM, hbel⟩ := hrel
                have hL := HLL.out
                by_cases hi2 : i' < k
                · have hkd2 : decide ((i' : Int) < (k : Int)) = true := by simp; omega
                  obtain ⟨b, off, hbo, hb, hc, hr⟩ := HX.out i' (by omega)
                  subst hbo
                  obtain ⟨gq0, gq1, gq2⟩ := HGet.out.1 i' hi2
                  have p1 := pl_succ L (3 * i') (by omega)
                  have p2 := pl_succ L (3 * i' + 1) (by omega)
                  have p3 := pl_succ L (3 * i' + 2) (by omega)
                  have r0 := reads_at L HFit.out (3 * i') (by omega)
                  have r1 := reads_at L HFit.out (3 * i' + 1) (by omega)
                  have r2 := reads_at L HFit.out (3 * i' + 2) (by omega)
                  have hple := pl_le L (3 * i' + 2) (by omega)
                  rw [gq0] at r0 p1
                  rw [gq1] at r1 p2
                  rw [gq2] at r2 p3 hple
                  rw [p2, p1] at p3 r2 hple
                  rw [p1] at r1
                  rw [HBS.out] at r0 r1 r2 hple
                  have t0 := elen_pos ⟨1, 3, 0, x i'⟩
                  have t1 := elen_pos ⟨5, 0, 3, 0⟩
                  have t2 := elen_pos ⟨26, 0, 0, (i' : Int)⟩
                  have C := run13_trap g gr gw gb cb (pl L (3 * i')) bs mm (x i') i' (elen ⟨1, 3, 0, x i'⟩) (elen ⟨5, 0, 3, 0⟩) (elen ⟨26, 0, 0, (i' : Int)⟩) wr hM.out.1 hM.out.2.1 hM.out.2.2.1 (by omega) r0 r1 r2 hr (by omega) ⟨t0.2, t1.2, t2.2⟩
                  rw [hM.out.2.2.2.2] at C
                  have HC := Lib.hid C
                  have HP := Lib.hid p3
                  have HWE := Lib.hid hM.out.2.2.2.1
                  have HC0 := Lib.hid hc
                  clear C r0 r1 r2 hple p1 p2 p3 t0 t1 t2 gq0 gq1 gq2 hL hc hr hM
                  go_wp2_with (first
                    | (go_at_call 13; with_reducible refine HC.out.mono ?_; rintro e w5 ⟨rfl, m', h5, o5, a5, n5, r5, W5, ho5⟩; have hbel5 := hbel.trans ((ho5.below_of HLOW.out hbel.size)); have hc5 := (hbel5.cell (p := ⟨b, off + i', none⟩) hb).trans HC0.out; have H5 := Lib.hid (And.intro h5 (And.intro o5 (And.intro a5 (And.intro W5 r5)))); clear h5 o5 a5 W5 ho5)
                    | (go_at_call 21; with_reducible refine (getN g gr gw gb cb bs m' _ H5.out.1).mono ?_; rintro e w6 ⟨rfl, rfl⟩)
                    | (go_at_call 16; with_reducible refine (getR0 g gr gw gb cb bs m' _ H5.out.1).mono ?_; rintro e w6 ⟨rfl, rfl⟩))
                  have hat : m'.at_ = ((pl L (3 * (i' + 1)) : Nat) : Int) := by rw [H5.out.2.2.1, show 3 * (i' + 1) = 3 * i' + 2 + 1 by omega, HP.out]
                  have hr0 : m'.R 0 = wrap32 (s0 + x i') := by rw [H5.out.2.2.2.2]; first | rfl | (unfold wrap32; exact IntKind.wrap_i32 _)
                  exact ⟨⟨i' + 1, m', _, by omega, by go_num, rfl, Lib.hid ⟨H5.out.1, H5.out.2.1, hat, H5.out.2.2.2.1.trans HWE.out, hr0⟩, hbel5⟩, by simp [intOf]; omega⟩
                · obtain rfl : i' = k := by omega
                  have hkd2 : decide ((i' : Int) < (i' : Int)) = false := by simp
                  have r0 := reads_at L HFit.out (3 * i') (by omega)
                  have hple := pl_le L (3 * i') (by omega)
                  rw [HGet.out.2] at r0 hple
                  rw [HBS.out] at r0 hple
                  have t0 := elen_pos ret
                  have C := run13_ret g gr gw gb cb (pl L (3 * i')) bs mm (elen ret) wr hM.out.1 hM.out.2.1 hM.out.2.2.1 (by omega) r0 t0.2
                  have HC := Lib.hid C
                  have HWE := Lib.hid hM.out.2.2.2.1
                  have HR0 := Lib.hid hM.out.2.2.2.2
                  clear C r0 hple t0 hM hL
                  go_wp2_with (go_at_call 13; with_reducible refine HC.out.mono ?_; rintro e w5 ⟨rfl, m', h5, r5, W5, ho5⟩; have hbel5 := hbel.trans ((ho5.below_of HLOW.out hbel.size)); have H5 := Lib.hid (And.intro h5 (And.intro r5 W5)); clear h5 r5 W5 ho5)
                  go_loopw [16] (fun s wq => ∃ q : Nat, q ≤ i ∧ s = .int .i64 q ∧ wq = w5) (fun s _ => i - (intOf s).toNat)
                  case atStart => exact ⟨0, Nat.zero_le _, rfl, rfl⟩
                  case round =>
                    obtain ⟨q, hq, rfl, rfl⟩ := hrel
                    by_cases hq1 : q < i
                    · have hkd3 : decide ((q : Int) < (i : Int)) = true := by simp; omega
                      obtain ⟨b, off, hbo, hb, hc, hr⟩ := HY.out q (by omega)
                      subst hbo
                      have hc1 := (hbel5.cell (p := ⟨b, off + q, none⟩) hb).trans hc
                      have hwl : q < m'.W.length := by rw [H5.out.2.2, HWE.out]; omega
                      have G := getW g gr gw gb cb bs m' q wr H5.out.1 hwl
                      rw [show m'.W.getD q 0 = y q by rw [H5.out.2.2, HWE.out]; exact hWy.out q hq1] at G
                      have HG := Lib.hid G; clear G hc hwl
                      go_wp2_with (go_at_call 22; with_reducible refine HG.out.mono ?_; rintro e w6 ⟨rfl, rfl⟩)
                      exact ⟨⟨q + 1, by omega, by go_num, by first | trivial | rfl⟩, by simp [intOf]; omega⟩
                    · obtain rfl : q = i := by omega
                      have hkd3 : decide ((q : Int) < (q : Int)) = false := by simp
                      have G := getR0 g gr gw gb cb bs m' wr H5.out.1
                      rw [H5.out.2.1, HR0.out] at G
                      have HG := Lib.hid G; clear G
                      go_wp2_with (first
                        | (go_at_call 16; with_reducible refine HG.out.mono ?_; rintro e w6 ⟨rfl, rfl⟩)
                        | (go_at_call 14; with_reducible refine (known_call _).mono ?_; rintro e w7 ⟨rfl, hb7⟩))
                      go_ret
                      exact ⟨rfl, hbel5.trans (hb7.mono hbel5.size)⟩
end Go.Proofs.Ytpcocfdgcihpdaa.rdw
