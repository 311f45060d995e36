/-
  sim.Machine.Step where an instruction stands that moves a number, adds, traps or returns.
-/
import Derived.Test.YtpcocfdgcihpdaaSmE
namespace Go.Proofs.Ytpcocfdgcihpdaa.rdw
open Go Go.RowKit Go.BigFrame
open Go.Proofs.Ytpcocfdgcihpdaa Go.Proofs.Ytpcocfdgcihpdaa.wr Go.Proofs.Ytpcocfdgcihpdaa.x86enc
set_option linter.unusedVariables false
set_option linter.unusedSimpArgs false
structure SimW (w : World) (g gr gw gb cb : Nat) (bs : List Int) (m : Mach) : Prop where
  mem : ∃ op a b n, SMem w g (csl gb bs.length cb) (csl gr bs.length bs.length) (wsl gw m.W.length) m op a b n
  read : ∃ L, RMem w gr [g, gr, gw] bs L
  row : Row w gb 0 bs
  words : WMem w gw m.W
  dis : g ≠ gr ∧ g ≠ gw ∧ g ≠ gb ∧ gr ≠ gw ∧ gr ≠ gb ∧ gw ≠ gb
  cap : bs.length ≤ cb ∧ cb ≤ 9223372036854775807
  byt : RD.isBytes bs ∧ bs.length ≤ 100000
  regs : RegOk m
def ex (m : Mach) (op a b : Nat) (n : Int) (len : Nat) : Mach × Int :=
  match op with
  | 1 => ({ m with at_ := m.at_ + len, R := upd m.R a n }, 1)
  | 5 => ({ fl { m with at_ := m.at_ + len } (m.R a + m.R b) with R := upd m.R a (IntKind.i32.wrap (m.R a + m.R b)) }, 1)
  | 25 => ({ m with at_ := m.at_ + len, over := 2 }, 2)
  | 26 => ({ m with at_ := m.at_ + len, N := n }, 3)
  | _ => (m, 0)
theorem Row.keep {w w' : World} {b o : Nat} {x : List Int} {S : List Nat} (h : Row w b o x) (ho : Only S w w') (hb : b ∉ S) : Row w' b o x := by
  refine ⟨Nat.lt_of_lt_of_le h.1 ho.size, fun j hj => ?_⟩
  have e := ho.same b h.1 hb
  have := h.2 j hj
  simp only [World.cell?, e]
  exact this
theorem RegOk.upd {m : Mach} (h : RegOk m) {a : Nat} {v : Int} (hv : I32 v) {m' : Mach} (e : m'.R = upd m.R a v) : RegOk m' := by
  intro r hr
  rw [e]; unfold rdw.upd; split
  · exact hv
  · exact h r hr
theorem SMem.setI {w : World} {g : Nat} {cv rv wv : Value} {m : Mach} {op a b n : Int} (h : SMem w g cv rv wv m op a b n) (o' a' b' n' : Int) :
    SMem ((((w.setCell ⟨g, 25, none⟩ (.int .i64 o')).setCell ⟨g, 26, none⟩ (.int .i64 a')).setCell ⟨g, 27, none⟩ (.int .i64 b')).setCell ⟨g, 28, none⟩ (.int .i32 n')) g cv rv wv m o' a' b' n' :=
  (((h.set 25 (.int .i64 o') (m' := m) (op' := o') (a' := a) (b' := b) (n' := n) rfl).set 26 (.int .i64 a') (m' := m) (op' := o') (a' := a') (b' := b) (n' := n) rfl).set 27 (.int .i64 b') (m' := m) (op' := o') (a' := a') (b' := b') (n' := n) rfl).set 28 (.int .i32 n') (m' := m) (op' := o') (a' := a') (b' := b') (n' := n') rfl
theorem only_setI (w : World) (g : Nat) (o' a' b' n' : Int) : Only [g] w ((((w.setCell ⟨g, 25, none⟩ (.int .i64 o')).setCell ⟨g, 26, none⟩ (.int .i64 a')).setCell ⟨g, 27, none⟩ (.int .i64 b')).setCell ⟨g, 28, none⟩ (.int .i32 n')) :=
  ((((Only.refl _ _).set _ (by simp)).set _ (by simp)).set _ (by simp)).set _ (by simp)
/-- up to what does the instruction -/
def Pre (w w2 : World) (g gr gw gb cb k : Nat) (bs : List Int) (m : Mach) (op a b : Nat) (n : Int) (len : Nat) : Prop :=
  SMem w2 g (csl gb bs.length cb) (csl gr bs.length bs.length) (wsl gw m.W.length) { m with at_ := m.at_ + len } op a b n ∧ (∃ L, RMem w2 gr [g, gr, gw] bs L) ∧ Only [g, gr] w w2
set_option maxHeartbeats 6400000 in
set_option maxRecDepth 1000000 in
theorem step23 (g gr gw gb cb k : Nat) (bs : List Int) (m : Mach) (op a b : Nat) (n : Int) (len : Nat) (w : World) (h : SimW w g gr gw gb cb bs m) (hov : m.over = 0) (hk : m.at_ = (k : Int)) (hkl : k < bs.length)
    (hd : RD.Reads (bs.drop k) (.ok op a b n len)) (hop : op = 1 ∨ op = 5 ∨ op = 25 ∨ op = 26) (ha : a < 16) (hb : b < 16) (hn : I32 n) (hlen : len ≤ 7) :
    Calls Try.prog 23 #[ptr g] w fun e w' => e = .returned (.int .i64 (ex m op a b n len).2) ∧ SimW w' g gr gw gb cb bs (ex m op a b n len).1 ∧ Only [g, gr, gw] w w' := by
  obtain ⟨⟨op0, a0, b0, n0, hm⟩, ⟨L, hr⟩, hrow, hwm, hdis, hcap, hbyt, hregs⟩ := h
  have hlt : ∀ q ∈ [g, gr, gw], q < w.heap.size := by
    intro q hq
    simp only [List.mem_cons, List.not_mem_nil, or_false] at hq
    rcases hq with rfl | rfl | rfl
    · exact block_lt hm.h
    · exact block_lt hr.h
    · exact block_lt hwm.h
  have D := decoded29 g gr gb cb k [g, gr, gw] (wsl gw m.W.length) m op0 a0 b0 n0 bs L ⟨by simp, hdis.1, by simp⟩ hk hkl hbyt.1 hcap w hlt hm hr hrow
  have c20 := hm.cell 20 rfl
  rw [hov] at c20
  have HD := Lib.hid D; clear D
  have HM := Lib.hid hm; clear hm
  have HR := Lib.hid hr; clear hr
  have HW := Lib.hid hrow; clear hrow
  have HWM := Lib.hid hwm; clear hwm
  have HDI := Lib.hid hdis; clear hdis
  have HC := Lib.hid hcap; clear hcap
  have HBY := Lib.hid hbyt; clear hbyt
  have HRG := Lib.hid hregs; clear hregs
  have hdat : DecAt bs k (.ok op a b n len) := .inl ⟨by omega, by omega, by simpa using hd⟩
  have HDA := Lib.hid hdat; clear hdat hd
  have e19 : IntKind.i64.wrap ((k : Int) + (len : Int)) = (k : Int) + (len : Int) := by have := HBY.out.2; rw [IntKind.wrap_i64]; omega
  go_enter Try.func23, Try.ntmps23
  go_upto_region 8 with (go_at_call 29; refine HD.out.mono ?_; rintro e w1 ⟨q, d, L', rfl, hqS, hK, hd', hR1, ho1⟩; obtain rfl := hd'.unique HDA.out; have hm1 := HM.out.keep ho1 (by simp; exact HDI.out.1); obtain ⟨q0, q1, q2, q3, q4, q5⟩ : w1.cell? ⟨q, 0, none⟩ = some (.int .i64 (op : Int)) ∧ w1.cell? ⟨q, 1, none⟩ = some (.int .i64 (a : Int)) ∧ w1.cell? ⟨q, 2, none⟩ = some (.int .i64 (b : Int)) ∧ w1.cell? ⟨q, 3, none⟩ = some (.int .i32 n) ∧ w1.cell? ⟨q, 4, none⟩ = some (.int .i64 (len : Int)) ∧ w1.cell? ⟨q, 5, none⟩ = some (.int .i64 0) := (by unfold KMem kc at hK; simp [World.cell?, hK]); have g19 := hm1.cell 19 rfl; have g25 := hm1.cell 25 rfl; have g26 := hm1.cell 26 rfl; have g27 := hm1.cell 27 rfl; have g28 := hm1.cell 28 rfl; have y25 := hm1.froz 25; have y26 := hm1.froz 26; have y27 := hm1.froz 27; have y28 := hm1.froz 28; have HK := Lib.hid hK; have HM1 := Lib.hid hm1; clear hK hm1 hd')
  have hm2 := HM1.out.setI op a b n
  have ho2 := only_setI w1 g op a b n
  have hK2 := HK.out.keep ho2 (by simp at hqS ⊢; exact hqS.1)
  have hR2 := hR1.keep ho2 (by simp; exact fun e => HDI.out.1 e.symm) (fun q hq => by simp at hq ⊢; exact hq.1)
  have ho02 : Only [g, gr] w _ := (ho1.mono (T := [g, gr]) (by simp)).trans (ho2.mono (T := [g, gr]) (by simp))
  clear g19 g25 g26 g27 g28 y25 y26 y27 y28 q0 q1 q2 q3 q4 q5 c20 ho1 ho2 hR1 HK HM1
  generalize (((w1.setCell ⟨g, 25, none⟩ (.int .i64 (op : Int))).setCell ⟨g, 26, none⟩ (.int .i64 (a : Int))).setCell ⟨g, 27, none⟩ (.int .i64 (b : Int))).setCell ⟨g, 28, none⟩ (.int .i32 n) = w2 at *
  have g19 := hm2.cell 19 rfl
  rw [hk] at g19
  have y19 := hm2.froz 19
  have q4 : w2.cell? ⟨q, 4, none⟩ = some (.int .i64 (len : Int)) := by unfold KMem kc at hK2; simp [World.cell?, hK2]
  have HM2 := Lib.hid hm2; clear hm2
  have HR2 := Lib.hid hR2; clear hR2
  have HO2 := Lib.hid ho02; clear ho02
  have HK2 := Lib.hid hK2; clear hK2
  go_region
  have hm3 : SMem ((w2.setCell ⟨g, 19, none⟩ (.int .i64 ((k : Int) + (len : Int)))).drew) g (csl gb bs.length cb) (csl gr bs.length bs.length) (wsl gw m.W.length) { m with at_ := m.at_ + len } op a b n := (HM2.out.set 19 _ (by rw [hk]; rfl)).drew
  have ho3 : Only [g] w2 ((w2.setCell ⟨g, 19, none⟩ (.int .i64 ((k : Int) + (len : Int)))).drew) := ((Only.refl _ _).set _ (by simp)).drew
  have hR3 := HR2.out.keep ho3 (by simp; exact fun e => HDI.out.1 e.symm) (fun q hq => by simp at hq ⊢; exact hq.1)
  have ho03 := HO2.out.trans (ho3.mono (T := [g, gr]) (by simp))
  clear g19 y19 q4 ho3
  generalize (w2.setCell ⟨g, 19, none⟩ (.int .i64 ((k : Int) + (len : Int)))).drew = w3 at *
  have HM3 := Lib.hid hm3; clear hm3
  have HR3 := Lib.hid hR3; clear hR3
  have HO3 := Lib.hid ho03; clear ho03
  have fin : ∀ (w4 : World) (m' : Mach), m'.W = m.W → RegOk m' → Only [g] w3 w4 → (∃ op a b n, SMem w4 g (csl gb bs.length cb) (csl gr bs.length bs.length) (wsl gw m.W.length) m' op a b n) → SimW w4 g gr gw gb cb bs m' ∧ Only [g, gr, gw] w w4 := by
    intro w4 m' hW hreg ho4 hm4
    have ho : Only [g, gr] w w4 := HO3.out.trans (ho4.mono (by simp))
    have hdis := HDI.out
    refine ⟨⟨by rw [hW]; exact hm4, ⟨L', HR3.out.keep ho4 (by simp; exact fun e => hdis.1 e.symm) (fun q hq => by simp at hq ⊢; exact hq.1)⟩, HW.out.keep ho (by simp; exact ⟨fun e => hdis.2.2.1 e.symm, fun e => hdis.2.2.2.2.1 e.symm⟩), by rw [hW]; exact HWM.out.keep ho (by simp; exact ⟨fun e => hdis.2.1 e.symm, fun e => hdis.2.2.2.1 e.symm⟩), hdis, HC.out, HBY.out, hreg⟩, ho.mono (by simp)⟩
  have FIN := Lib.hid fin; clear fin
  rcases hop with rfl | rfl | rfl | rfl
  · go_wp2_with (first
      | (go_at_call 31; refine (does31 g _ _ _ _ _ a b n 39 _ HM3.out (by simp)).mono ?_; rintro e w4 ⟨rfl, rfl⟩)
      | (go_at_call 39; refine (move39 g _ _ _ _ a b n _ ha HM3.out).mono ?_; rintro e w4 ⟨rfl, hm4, ho4⟩; have HM4 := Lib.hid hm4; clear hm4))
    go_ret
    exact ⟨rfl, FIN.out _ _ rfl (HRG.out.upd (a := a) (v := n) hn rfl) ho4 ⟨_, _, _, _, HM4.out⟩⟩
  · go_wp2_with (first
      | (go_at_call 31; refine (does31 g _ _ _ _ _ a b n 41 _ HM3.out (by simp)).mono ?_; rintro e w4 ⟨rfl, rfl⟩)
      | (go_at_call 41; refine (sum41_5 g _ _ _ { m with at_ := m.at_ + len } a b n HRG.out ha hb _ HM3.out).mono ?_; rintro e w4 ⟨rfl, hm4, ho4⟩; have HM4 := Lib.hid hm4; clear hm4))
    go_ret
    exact ⟨rfl, FIN.out _ _ rfl (HRG.out.upd (a := a) (w32_rng _) rfl) ho4 ⟨_, _, _, _, HM4.out⟩⟩
  · go_wp2_with (first
      | (go_at_call 31; refine (does31 g _ _ _ _ _ a b n 45 _ HM3.out (by simp)).mono ?_; rintro e w4 ⟨rfl, rfl⟩)
      | (go_at_call 45; refine (leave45_25 g _ _ _ _ a b n _ HM3.out).mono ?_; rintro e w4 ⟨rfl, rfl⟩)
      | (go_at_call 30; refine (end30 g _ _ _ _ _ _ _ _ 2 _ HM3.out).mono ?_; rintro e w5 ⟨rfl, hm4, ho4⟩; have HM4 := Lib.hid hm4; clear hm4))
    go_ret
    exact ⟨rfl, FIN.out _ _ rfl HRG.out ho4 ⟨_, _, _, _, HM4.out⟩⟩
  · go_wp2_with (first
      | (go_at_call 31; refine (does31 g _ _ _ _ _ a b n 45 _ HM3.out (by simp)).mono ?_; rintro e w4 ⟨rfl, rfl⟩)
      | (go_at_call 45; refine (leave45_26 g _ _ _ _ a b n hn _ HM3.out).mono ?_; rintro e w4 ⟨rfl, hm4, ho4⟩; have HM4 := Lib.hid hm4; clear hm4))
    go_ret
    exact ⟨rfl, FIN.out _ _ rfl HRG.out ho4 ⟨_, _, _, _, HM4.out⟩⟩
end Go.Proofs.Ytpcocfdgcihpdaa.rdw
