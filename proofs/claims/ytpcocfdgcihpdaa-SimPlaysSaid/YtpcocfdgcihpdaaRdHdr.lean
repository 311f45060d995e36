/-
  x86.read: what its walks share: bytes, the contract of Encode in a world's shape, the parts of its answer.
-/
import Derived.Test.YtpcocfdgcihpdaaProg
import Derived.Test.YtpcocfdgcihpdaaRdPlain
import Derived.WalkKit
import Derived.Below
import Derived.ProofKit
import Derived.OpenShut
import Derived.Deep.DeepCutAuto
import Derived.Deep.Cut
import Derived.Deep.QuietTactic
import Derived.BigQuiet
import Derived.LoopN
import Derived.Lib.Hide
import Derived.IntWalk
import Derived.Test.YtpcocfdgcihpdaaWrParts
set_option maxHeartbeats 64000000
set_option maxRecDepth 1000000
set_option linter.unusedVariables false
set_option linter.unusedSimpArgs false
namespace Go.Proofs.Ytpcocfdgcihpdaa.rdw
open Go Go.RowKit
open Go.Proofs.Ytpcocfdgcihpdaa Go.Proofs.Ytpcocfdgcihpdaa.wr
set_option linter.unusedVariables false
set_option linter.unusedSimpArgs false
def OfC (op : Int) (cl : Nat) (a b : Bool) (nb : Int) (md : Bool) (x y : Int) (ld : Bool) : Prop :=
  ∀ w : World, Calls Try.prog 55 #[.int .i64 op] w fun e w' => (∃ blk cap : Nat, e = .returned (.tuple #[.agg #[.slice (some ⟨blk, 0, none⟩) cl cap, .bool a, .bool b, .int .i64 nb, .bool md, .int .i64 x, .int .i64 y, .bool ld], .bool true])) ∧ Below w.heap.size w w'
theorem bits240 (v : Int) (h0 : 0 ≤ v) (h1 : v ≤ 255) : (bits BinOp.and IntKind.u8 v 240 == 64) = decide (v / 16 = 4) := by
  have key : ∀ n : Nat, n < 256 → (bits BinOp.and IntKind.u8 (n : Int) 240 == 64) = decide ((n : Int) / 16 = 4) := by decide +kernel
  have := key v.toNat (by omega)
  rwa [Int.toNat_of_nonneg h0] at this
def Row (w : World) (bb oo : Nat) (x : List Int) : Prop := bb < w.heap.size ∧ ∀ j, j < x.length → w.cell? ⟨bb, oo + j, none⟩ = some (.int .u8 (x.getD j 0))
theorem Row.mono {w w' : World} {bb oo : Nat} {x : List Int} (h : Row w bb oo x) (hb : Below w.heap.size w w') : Row w' bb oo x := ⟨Nat.lt_of_lt_of_le h.1 hb.size, fun j hj => (hb.cell h.1).trans (h.2 j hj)⟩
theorem common_lt : ∀ {l m : List Int} {k : Nat}, k < RD.common l m → k < l.length ∧ k < m.length ∧ l.getD k 0 = m.getD k 0
  | [], _, _, h => by simp [RD.common] at h
  | _ :: _, [], _, h => by simp [RD.common] at h
  | a :: l, b :: m, k, h => by
    simp only [RD.common] at h
    split at h
    · rename_i e; subst e
      cases k with
      | zero => simp
      | succ k => obtain ⟨h1, h2, h3⟩ := common_lt (l := l) (m := m) (k := k) (by omega); exact ⟨by simp; omega, by simp; omega, by simpa using h3⟩
    · omega
theorem common_end : ∀ {l m : List Int}, RD.common l m < l.length → RD.common l m < m.length → l.getD (RD.common l m) 0 ≠ m.getD (RD.common l m) 0
  | [], _, h, _ => by simp at h
  | _ :: _, [], _, h => by simp at h
  | a :: l, b :: m, h, h' => by
    simp only [RD.common] at h h' ⊢
    split
    · rename_i e
      rw [if_pos e] at h h'
      have := common_end (l := l) (m := m) (by simpa using h) (by simpa using h')
      simpa using this
    · rename_i e; simpa using e
def same_ (op A B N : Int) (x : List Int) : Nat := if encE op A B N = 0 then RD.common (encB op A B N) x else 0
theorem results32 : Try.f50.results = #[.cell 4 30, .tmp 5, .tmp 6] := by kernel_rfl
theorem bitsI (v : Int) (h0 : 0 ≤ v) (h1 : v ≤ 255) : bits BinOp.and IntKind.i64 v 1 = v % 2 := by
  have key : ∀ n : Nat, n < 256 → bits BinOp.and IntKind.i64 (n : Int) 1 = (n : Int) % 2 := by decide +kernel
  have := key v.toNat (by omega)
  rwa [Int.toNat_of_nonneg h0] at this
theorem bitsU (v : Int) (h0 : 0 ≤ v) (h1 : v ≤ 255) : bits BinOp.and IntKind.u8 v 7 = v % 8 := by
  have key : ∀ n : Nat, n < 256 → bits BinOp.and IntKind.u8 (n : Int) 7 = (n : Int) % 8 := by decide +kernel
  have := key v.toNat (by omega)
  rwa [Int.toNat_of_nonneg h0] at this
def setObj (j : Nat) (u : Value) : Obj → Obj
  | .cells cs t fr => .cells (cs.setIfInBounds j u) t fr
  | o => o
theorem setCell_self (w : World) (g j : Nat) (u : Value) : (w.setCell ⟨g, j, none⟩ u).heap[g]? = (w.heap[g]?).map (setObj j u) := by
  simp only [World.setCell, Array.getElem?_modify, if_true]
  cases w.heap[g]? with
  | none => rfl
  | some o => cases o <;> rfl
theorem below_drewN {B : Nat} {a w : World} (h : Below B a w) (n : Nat) : Below B a (w.drewN n) := ⟨h.os, h.tape, h.output, h.size, h.block⟩
theorem alloc2_new (w : World) (o o' : Obj) : ((w.alloc o).alloc o').heap[w.heap.size + 1]? = some o' := by
  have := heap_alloc_new (w.alloc o) o'
  rwa [World.size_alloc] at this
abbrev Z4 : Obj := .cells #[.int .i64 0, .int .i64 0, .int .i64 0, .int .i32 0] 30 (0, 0)
structure Sh (w w1 W : World) (arr : Array Value) : Prop where
  bel : Below w.heap.size w W
  four : W.heap[w.heap.size]? = some Z4
  nine : W.heap[w1.heap.size + 1]? = some (.cells arr 30 (0, 0))
  lt : w1.heap.size + 1 < W.heap.size
  lt4 : w.heap.size < w1.heap.size
theorem Sh.start {w w1 : World} (hb : Below w.heap.size w w1) (h4 : w1.heap[w.heap.size]? = some Z4) (hlt : w.heap.size < w1.heap.size) (F : Obj) (arr : Array Value) : Sh w w1 ((w1.alloc F).alloc (.cells arr 30 (0, 0))) arr :=
  ⟨(hb.alloc (by omega) F).alloc (by simp; omega) _, (Below.heap_alloc _ _ _ (by simp; omega)).trans ((Below.heap_alloc _ _ _ hlt).trans h4), alloc2_new _ _ _, by simp, hlt⟩
theorem Sh.drewN {w w1 W : World} {arr : Array Value} (h : Sh w w1 W arr) (n : Nat) : Sh w w1 (W.drewN n) arr := ⟨below_drewN h.bel n, h.four, h.nine, h.lt, h.lt4⟩
theorem Sh.drew {w w1 W : World} {arr : Array Value} (h : Sh w w1 W arr) : Sh w w1 W.drew arr := ⟨h.bel.drew, h.four, h.nine, h.lt, h.lt4⟩
theorem Sh.alloc {w w1 W : World} {arr : Array Value} (h : Sh w w1 W arr) (o : Obj) : Sh w w1 (W.alloc o) arr :=
  ⟨h.bel.alloc (by have := h.lt; have := h.lt4; omega) o, (Below.heap_alloc _ _ _ (by have := h.lt; have := h.lt4; omega)).trans h.four, (Below.heap_alloc _ _ _ h.lt).trans h.nine, by simp; have := h.lt; omega, h.lt4⟩
theorem Sh.set {w w1 W : World} {arr : Array Value} (h : Sh w w1 W arr) (j : Nat) (u : Value) : Sh w w1 (W.setCell ⟨w1.heap.size + 1, j, none⟩ u) (arr.setIfInBounds j u) := by
  refine ⟨h.bel.setCell (by simp; have := h.lt4; omega) u, (Below.heap_setCell _ _ _ _ (by simp; have := h.lt4; omega)).trans h.four, ?_, by simpa using h.lt, h.lt4⟩
  rw [setCell_self, h.nine]; rfl
theorem enc12W (op a b n : Int) {w w1 W : World} {bb oo : Nat} {x : List Int} (hr : Row w bb oo x) (hS : ∃ arr, Sh w w1 W arr ∧ arr = #[.int .i64 op, .int .i64 a, .int .i64 b, .int .i32 n]) :
    Calls Try.prog 56 #[.agg #[.int .i64 op, .int .i64 a, .int .i64 b, .int .i32 n]] W fun e w' => ∃ (v : Value) (E : Int) (bs : List Int), e = .returned (.tuple #[v, .int .i64 E]) ∧ Hid (E = encE op a b n ∧ bs = encB op a b n) ∧ Bytes W.heap.size w' v bs ∧ Below w.heap.size w w' ∧ w'.heap[w.heap.size]? = some Z4 ∧ w'.heap[w1.heap.size + 1]? = some (.cells #[.int .i64 op, .int .i64 a, .int .i64 b, .int .i32 n] 30 (0, 0)) ∧ Row w' bb oo x ∧ w1.heap.size + 1 < w'.heap.size := by
  obtain ⟨arr, hS, rfl⟩ := hS
  refine (enc12C op a b n W).mono fun e w' h => ?_
  obtain ⟨v, h1, h2, h3⟩ := h
  have := hS.lt; have := hS.lt4; have := h3.size
  exact ⟨v, _, _, h1, Lib.hid ⟨rfl, rfl⟩, h2, hS.bel.trans (h3.mono hS.bel.size), (h3.block _ (by omega)).trans hS.four, (h3.block _ hS.lt).trans hS.nine, (hr.mono hS.bel).mono (h3.mono (Nat.le_refl _)), by omega⟩
theorem fin4 {w : World} {g : Nat} (h : w.heap[g]? = some Z4) (a b c d : Value) : ((((w.setCell ⟨g, 0, none⟩ a).setCell ⟨g, 1, none⟩ b).setCell ⟨g, 2, none⟩ c).setCell ⟨g, 3, none⟩ d).heap[g]? = some (.cells #[a, b, c, d] 30 (0, 0)) := by
  simp only [setCell_self, h, Option.map_some, setObj]; simp
theorem cells4 {w : World} {g : Nat} {a b c d : Value} (h : w.heap[g]? = some (.cells #[a, b, c, d] 30 (0, 0))) : w.cell? ⟨g, 0, none⟩ = some a ∧ w.cell? ⟨g, 1, none⟩ = some b ∧ w.cell? ⟨g, 2, none⟩ = some c ∧ w.cell? ⟨g, 3, none⟩ = some d := by
  simp [World.cell?, h]
def ReadC (kk bb oo cap : Nat) (x : List Int) (w : World) : Prop :=
  Calls Try.prog 50 #[.int .i64 (kk : Int), .slice (some ⟨bb, oo, none⟩) x.length cap] w fun e w' =>
    e = .returned (.tuple #[.agg #[.int .i64 (kk : Int), .int .i64 (RD.rdA kk x), .int .i64 (RD.rdB kk x), .int .i32 (RD.rdN kk x)], .int .i64 ((same_ kk (RD.rdA kk x) (RD.rdB kk x) (RD.rdN kk x) x : Nat) : Int), .int .i64 ((RD.need kk x : Nat) : Int)]) ∧ Below w.heap.size w w'
theorem orN (i a b : Nat) (h1 : a < 2 ^ i) (h3 : a + b * 2 ^ i < 4294967296) : bits BinOp.or IntKind.u32 (a : Int) ((b * 2 ^ i : Nat) : Int) = ((a + b * 2 ^ i : Nat) : Int) := by
  have e : a ||| b * 2 ^ i = a + b * 2 ^ i := by
    have := Nat.two_pow_add_eq_or_of_lt (b := a) (i := i) h1 b
    rw [Nat.or_comm, Nat.mul_comm b, ← this, Nat.add_comm]
  have e2 : (BitVec.ofInt 32 (a : Int) ||| BitVec.ofInt 32 ((b * 2 ^ i : Nat) : Int)).toNat = a + b * 2 ^ i := by
    rw [BitVec.toNat_or, BitVec.ofInt_natCast, BitVec.ofInt_natCast, BitVec.toNat_ofNat, BitVec.toNat_ofNat, Nat.mod_eq_of_lt (by omega), Nat.mod_eq_of_lt (by omega), e]
  show IntKind.u32.wrap ((BitVec.ofInt 32 (a : Int) ||| BitVec.ofInt 32 ((b * 2 ^ i : Nat) : Int)).toNat : Int) = _
  rw [e2]
  exact IntWalk.u32_in _ (by omega)
theorem orU (i : Nat) (lo h p : Int) (hp : p = ((2 ^ i : Nat) : Int)) (h0 : 0 ≤ lo) (h1 : lo < p) (h2 : 0 ≤ h) (h3 : lo + h * p < 4294967296) : bits BinOp.or IntKind.u32 lo (h * p) = lo + h * p := by
  subst hp
  obtain ⟨a, rfl⟩ := Int.eq_ofNat_of_zero_le h0
  obtain ⟨b, rfl⟩ := Int.eq_ofNat_of_zero_le h2
  have := orN i a b (Int.ofNat_lt.1 h1) (Int.ofNat_lt.1 (by rw [Int.natCast_add, Int.natCast_mul]; exact h3))
  rw [Int.natCast_add, Int.natCast_mul] at this
  exact this
theorem or4 (n0 n1 n2 n3 : Int) (a0 : 0 ≤ n0) (b0 : n0 ≤ 255) (a1 : 0 ≤ n1) (b1 : n1 ≤ 255) (a2 : 0 ≤ n2) (b2 : n2 ≤ 255) (a3 : 0 ≤ n3) (b3 : n3 ≤ 255) :
    wrap32 (bits BinOp.or IntKind.u32 (bits BinOp.or IntKind.u32 (bits BinOp.or IntKind.u32 (bits BinOp.or IntKind.u32 0 n0) (n1 * 256)) (n2 * 65536)) (n3 * 16777216)) = RD.s32 (n0 + 256 * n1 + 65536 * n2 + 16777216 * n3) := by
  have e0 : bits BinOp.or IntKind.u32 0 n0 = n0 := by
    have := orU 0 0 n0 1 rfl (by omega) (by omega) a0 (by omega)
    simpa using this
  have e1 : bits BinOp.or IntKind.u32 n0 (n1 * 256) = n0 + n1 * 256 := orU 8 n0 n1 256 rfl a0 (by omega) a1 (by omega)
  have e2 : bits BinOp.or IntKind.u32 (n0 + n1 * 256) (n2 * 65536) = n0 + n1 * 256 + n2 * 65536 := orU 16 _ n2 65536 rfl (by omega) (by omega) a2 (by omega)
  have e3 : bits BinOp.or IntKind.u32 (n0 + n1 * 256 + n2 * 65536) (n3 * 16777216) = n0 + n1 * 256 + n2 * 65536 + n3 * 16777216 := orU 24 _ n3 16777216 rfl (by omega) (by omega) a3 (by omega)
  rw [e0, e1, e2, e3]
  unfold wrap32 RD.s32
  split <;> omega
theorem or1 (n0 : Int) (a0 : 0 ≤ n0) (b0 : n0 ≤ 255) : wrap32 (bits BinOp.or IntKind.u32 0 n0) = n0 := by
  have e0 : bits BinOp.or IntKind.u32 0 n0 = n0 := by
    have := orU 0 0 n0 1 rfl (by omega) (by omega) a0 (by omega)
    simpa using this
  rw [e0]; unfold wrap32; omega
end Go.Proofs.Ytpcocfdgcihpdaa.rdw
