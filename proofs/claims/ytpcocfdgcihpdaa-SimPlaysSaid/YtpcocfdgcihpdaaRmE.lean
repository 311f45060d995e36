/-
  caraferef20: do
-/
import Derived.Test.YtpcocfdgcihpdaaRmB
import Derived.Test.YtpcocfdgcihpdaaRmC
import Derived.Test.YtpcocfdgcihpdaaRmD
set_option maxHeartbeats 64000000
set_option maxRecDepth 1000000
set_option linter.unusedVariables false
set_option linter.unusedSimpArgs false
namespace Go.Proofs.Ytpcocfdgcihpdaa.rdw
open Go Go.RowKit Go.BigFrame
open Go.Proofs.Ytpcocfdgcihpdaa Go.Proofs.Ytpcocfdgcihpdaa.wr Go.Proofs.Ytpcocfdgcihpdaa.x86enc
theorem do33 (g gw : Nat) (cv kv : Value) (m : Mach) (l : Int) (op a b : Nat) (n : Int) (h1 : 1 ≤ op) (h2 : op ≤ 26) (hR : RegOk m) (ha : a < 16) (hb : b < 16) (hn : I32 n) (hat : 0 ≤ m.at_ ∧ m.at_ ≤ 1000000) (hl : m.W.length ≤ 1000) (hgg : gw ≠ g) (w : World)
    (h : NMem w g cv (wsl gw m.W.length) kv m l) (hw : WMem w gw m.W) :
    Calls Try.prog 33 #[ptr g, iv op a b n] w (DoP g gw cv kv m (exA m op a b n).1 l (exA m op a b n).2 w) := by
  rcases RD.op_cases op h1 h2 with e | e | e | e | e | e | e | e | e | e | e | e | e | e | e | e | e | e | e | e | e | e | e | e | e | e <;> subst e
  · exact do33_1 g gw cv kv m l a b n ⟨hR, ha, hb, hn, hat, hl, hgg⟩ w h hw
  · exact do33_2 g gw cv kv m l a b n ⟨hR, ha, hb, hn, hat, hl, hgg⟩ w h hw
  · by_cases hr : n.tmod 4 = 0
    · by_cases hr2 : n < 0
      · exact do33_3n g gw cv kv m l a b n ⟨hR, ha, hb, hn, hat, hl, hgg⟩ hr hr2 w h hw
      · by_cases hr3 : (m.W.length : Int) ≤ n.tdiv 4
        · exact do33_3l g gw cv kv m l a b n ⟨hR, ha, hb, hn, hat, hl, hgg⟩ hr hr2 hr3 w h hw
        · have e1 : n.tmod 4 = n % 4 := Int.tmod_eq_emod_of_nonneg (by omega)
          have e2 : n.tdiv 4 = n / 4 := Int.tdiv_eq_ediv_of_nonneg (by omega)
          exact do33_3 g gw cv kv m l a b n ⟨hR, ha, hb, hn, hat, hl, hgg⟩ (n / 4).toNat (by omega) (by omega) w h hw
    · exact do33_3r g gw cv kv m l a b n ⟨hR, ha, hb, hn, hat, hl, hgg⟩ hr w h hw
  · by_cases hr : n.tmod 4 = 0
    · by_cases hr2 : n < 0
      · exact do33_4n g gw cv kv m l a b n ⟨hR, ha, hb, hn, hat, hl, hgg⟩ hr hr2 w h hw
      · by_cases hr3 : (m.W.length : Int) ≤ n.tdiv 4
        · exact do33_4l g gw cv kv m l a b n ⟨hR, ha, hb, hn, hat, hl, hgg⟩ hr hr2 hr3 w h hw
        · have e1 : n.tmod 4 = n % 4 := Int.tmod_eq_emod_of_nonneg (by omega)
          have e2 : n.tdiv 4 = n / 4 := Int.tdiv_eq_ediv_of_nonneg (by omega)
          exact do33_4 g gw cv kv m l a b n ⟨hR, ha, hb, hn, hat, hl, hgg⟩ (n / 4).toNat (by omega) (by omega) w h hw
    · exact do33_4r g gw cv kv m l a b n ⟨hR, ha, hb, hn, hat, hl, hgg⟩ hr w h hw
  · exact do33_5 g gw cv kv m l a b n ⟨hR, ha, hb, hn, hat, hl, hgg⟩ w h hw
  · exact do33_6 g gw cv kv m l a b n ⟨hR, ha, hb, hn, hat, hl, hgg⟩ w h hw
  · exact do33_7 g gw cv kv m l a b n ⟨hR, ha, hb, hn, hat, hl, hgg⟩ w h hw
  · exact do33_8 g gw cv kv m l a b n ⟨hR, ha, hb, hn, hat, hl, hgg⟩ w h hw
  · exact do33_9 g gw cv kv m l a b n ⟨hR, ha, hb, hn, hat, hl, hgg⟩ w h hw
  · exact do33_10 g gw cv kv m l a b n ⟨hR, ha, hb, hn, hat, hl, hgg⟩ w h hw
  · exact do33_11 g gw cv kv m l a b n ⟨hR, ha, hb, hn, hat, hl, hgg⟩ w h hw
  · exact do33_12 g gw cv kv m l a b n ⟨hR, ha, hb, hn, hat, hl, hgg⟩ w h hw
  · exact do33_13 g gw cv kv m l a b n ⟨hR, ha, hb, hn, hat, hl, hgg⟩ w h hw
  · by_cases hd0 : m.R a = 0
    · exact do33_14z g gw cv kv m l a b n ⟨hR, ha, hb, hn, hat, hl, hgg⟩ hd0 w h hw
    · by_cases hm : num m = -9223372036854775808 ∧ m.R a = -1
      · exact do33_14m g gw cv kv m l a b n ⟨hR, ha, hb, hn, hat, hl, hgg⟩ hm w h hw
      · by_cases hq1 : (num m).tdiv (m.R a) < -2147483648
        · exact do33_14l g gw cv kv m l a b n ⟨hR, ha, hb, hn, hat, hl, hgg⟩ ⟨hd0, hm, hq1⟩ w h hw
        · by_cases hq2 : 2147483647 < (num m).tdiv (m.R a)
          · exact do33_14g g gw cv kv m l a b n ⟨hR, ha, hb, hn, hat, hl, hgg⟩ ⟨hd0, hm, hq2⟩ w h hw
          · exact do33_14 g gw cv kv m l a b n ⟨hR, ha, hb, hn, hat, hl, hgg⟩ ⟨hd0, hm, by omega, by omega⟩ w h hw
  · exact do33_15 g gw cv kv m l a b n ⟨hR, ha, hb, hn, hat, hl, hgg⟩ w h hw
  · exact do33_16 g gw cv kv m l a b n ⟨hR, ha, hb, hn, hat, hl, hgg⟩ w h hw
  · exact do33_17 g gw cv kv m l a b n ⟨hR, ha, hb, hn, hat, hl, hgg⟩ w h hw
  · exact do33_j 18 18 (by unfold JO; simp) g gw cv kv m l a b n ⟨hR, ha, hb, hn, hat, hl, hgg⟩ w h hw
  · exact do33_j 19 19 (by unfold JO; simp) g gw cv kv m l a b n ⟨hR, ha, hb, hn, hat, hl, hgg⟩ w h hw
  · exact do33_j 20 20 (by unfold JO; simp) g gw cv kv m l a b n ⟨hR, ha, hb, hn, hat, hl, hgg⟩ w h hw
  · exact do33_j 21 21 (by unfold JO; simp) g gw cv kv m l a b n ⟨hR, ha, hb, hn, hat, hl, hgg⟩ w h hw
  · exact do33_j 22 22 (by unfold JO; simp) g gw cv kv m l a b n ⟨hR, ha, hb, hn, hat, hl, hgg⟩ w h hw
  · exact do33_j 23 23 (by unfold JO; simp) g gw cv kv m l a b n ⟨hR, ha, hb, hn, hat, hl, hgg⟩ w h hw
  · exact do33_j 24 24 (by unfold JO; simp) g gw cv kv m l a b n ⟨hR, ha, hb, hn, hat, hl, hgg⟩ w h hw
  · exact do33_25 g gw cv kv m l a b n ⟨hR, ha, hb, hn, hat, hl, hgg⟩ w h hw
  · exact do33_26 g gw cv kv m l a b n ⟨hR, ha, hb, hn, hat, hl, hgg⟩ w h hw
end Go.Proofs.Ytpcocfdgcihpdaa.rdw
