/-
  sim.Machine.Step where an instruction stands that moves a number, adds, traps or returns.
-/
import Derived.Test.YtpcocfdgcihpdaaSmE
set_option maxHeartbeats 64000000
set_option maxRecDepth 1000000
set_option linter.unusedVariables false
set_option linter.unusedSimpArgs false
namespace Go.Proofs.Ytpcocfdgcihpdaa.rdw
open Go Go.RowKit Go.BigFrame
open Go.Proofs.Ytpcocfdgcihpdaa Go.Proofs.Ytpcocfdgcihpdaa.wr Go.Proofs.Ytpcocfdgcihpdaa.x86enc
set_option linter.unusedVariables false
set_option linter.unusedSimpArgs false
structure SimW (w : World) (g gr gw gb cb : Nat) (bs : List Int) (m : Mach) : Prop where
  mem : ∃ op a b n, SMem w g (csl gb bs.length cb) (csl gr bs.length bs.length) (wsl gw m.W.length) m op a b n
  read : ∃ L, RMem w gr [g, gr, gw] bs L
  row : Row w gb 0 bs
  words : WMem w gw m.W
  dis : g ≠ gr ∧ g ≠ gw ∧ g ≠ gb ∧ gr ≠ gw ∧ gr ≠ gb ∧ gw ≠ gb
  cap : bs.length ≤ cb ∧ cb ≤ 9223372036854775807
  byt : RD.isBytes bs ∧ bs.length ≤ 100000
  regs : RegOk m
def ex (m : Mach) (op a b : Nat) (n : Int) (len : Nat) : Mach × Int :=
  match op with
  | 1 => ({ m with at_ := m.at_ + len, R := upd m.R a n }, 1)
  | 5 => ({ fl { m with at_ := m.at_ + len } (m.R a + m.R b) with R := upd m.R a (IntKind.i32.wrap (m.R a + m.R b)) }, 1)
  | 25 => ({ m with at_ := m.at_ + len, over := 2 }, 2)
  | 26 => ({ m with at_ := m.at_ + len, N := n }, 3)
  | _ => (m, 0)
theorem Row.keep {w w' : World} {b o : Nat} {x : List Int} {S : List Nat} (h : Row w b o x) (ho : Only S w w') (hb : b ∉ S) : Row w' b o x := by
  refine ⟨Nat.lt_of_lt_of_le h.1 ho.size, fun j hj => ?_⟩
  have e := ho.same b h.1 hb
  have := h.2 j hj
  simp only [World.cell?, e]
  exact this
theorem RegOk.upd {m : Mach} (h : RegOk m) {a : Nat} {v : Int} (hv : I32 v) {m' : Mach} (e : m'.R = upd m.R a v) : RegOk m' := by
  intro r hr
  rw [e]; unfold rdw.upd; split
  · exact hv
  · exact h r hr
theorem SMem.setI {w : World} {g : Nat} {cv rv wv : Value} {m : Mach} {op a b n : Int} (h : SMem w g cv rv wv m op a b n) (o' a' b' n' : Int) :
    SMem ((((w.setCell ⟨g, 25, none⟩ (.int .i64 o')).setCell ⟨g, 26, none⟩ (.int .i64 a')).setCell ⟨g, 27, none⟩ (.int .i64 b')).setCell ⟨g, 28, none⟩ (.int .i32 n')) g cv rv wv m o' a' b' n' :=
  (((h.set 25 (.int .i64 o') (m' := m) (op' := o') (a' := a) (b' := b) (n' := n) rfl).set 26 (.int .i64 a') (m' := m) (op' := o') (a' := a') (b' := b) (n' := n) rfl).set 27 (.int .i64 b') (m' := m) (op' := o') (a' := a') (b' := b') (n' := n) rfl).set 28 (.int .i32 n') (m' := m) (op' := o') (a' := a') (b' := b') (n' := n') rfl
theorem only_setI (w : World) (g : Nat) (o' a' b' n' : Int) : Only [g] w ((((w.setCell ⟨g, 25, none⟩ (.int .i64 o')).setCell ⟨g, 26, none⟩ (.int .i64 a')).setCell ⟨g, 27, none⟩ (.int .i64 b')).setCell ⟨g, 28, none⟩ (.int .i32 n')) :=
  ((((Only.refl _ _).set _ (by simp)).set _ (by simp)).set _ (by simp)).set _ (by simp)
end Go.Proofs.Ytpcocfdgcihpdaa.rdw
