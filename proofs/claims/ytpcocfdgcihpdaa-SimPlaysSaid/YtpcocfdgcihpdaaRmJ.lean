/-
  caraferef20: does a jump go? How do's instruction lies in memory.
-/
import Derived.Test.YtpcocfdgcihpdaaRmA
import Derived.Test.YtpcocfdgcihpdaaSmD
set_option maxHeartbeats 64000000
set_option maxRecDepth 1000000
set_option linter.unusedVariables false
set_option linter.unusedSimpArgs false
namespace Go.Proofs.Ytpcocfdgcihpdaa.rdw
open Go Go.RowKit Go.BigFrame
open Go.Proofs.Ytpcocfdgcihpdaa Go.Proofs.Ytpcocfdgcihpdaa.wr Go.Proofs.Ytpcocfdgcihpdaa.x86enc
def JO (o : Int) (op : Nat) : Prop := (o = 18 ∧ op = 18) ∨ (o = 19 ∧ op = 19) ∨ (o = 20 ∧ op = 20) ∨ (o = 21 ∧ op = 21) ∨ (o = 22 ∧ op = 22) ∨ (o = 23 ∧ op = 23) ∨ (o = 24 ∧ op = 24)
theorem jumps49 (o : Int) (op : Nat) (hop : JO o op) (g : Nat) (cv wv kv : Value) (m : Mach) (l : Int) (w : World) (h : NMem w g cv wv kv m l) :
    Calls Try.prog 49 #[ptr g, .int .i64 o] w fun e w' => e = .returned (.bool (goes m op)) ∧ ∃ j, w' = w.drewN j := by
  have c19 := h.cell 19 rfl
  have c20 := h.cell 20 rfl
  have c21 := h.cell 21 rfl
  clear h
  obtain ⟨z, hz⟩ : ∃ z, m.Z = z := ⟨_, rfl⟩
  obtain ⟨s, hs⟩ : ∃ s, m.S = s := ⟨_, rfl⟩
  obtain ⟨v, hv⟩ : ∃ v, m.O = v := ⟨_, rfl⟩
  have hgo : goes m op = goes { m with Z := z, S := s, O := v } op := by rw [← hz, ← hs, ← hv]
  rw [hgo]
  rw [hz] at c19
  rw [hs] at c20
  rw [hv] at c21
  clear hgo hz hs hv
  rcases hop with ⟨rfl, rfl⟩ | ⟨rfl, rfl⟩ | ⟨rfl, rfl⟩ | ⟨rfl, rfl⟩ | ⟨rfl, rfl⟩ | ⟨rfl, rfl⟩ | ⟨rfl, rfl⟩ <;> cases z <;> cases s <;> cases v <;>
    (go_enter Try.func49, Try.ntmps49
     go_wp2_with fail
     first
       | (go_ret
          exact ⟨rfl, 0, rfl⟩)
       | (go_quiet (fail)
          go_wp2_with fail
          go_ret
          exact ⟨rfl, _, rfl⟩))
theorem jumps49_no (op : Nat) (h1 : 1 ≤ op) (h2 : op ≤ 26) (ho : op < 18 ∨ 24 < op) (g : Nat) (m : Mach) (w : World) :
    Calls Try.prog 49 #[ptr g, .int .i64 (op : Int)] w fun e w' => e = .returned (.bool false) ∧ w' = w := by
  rcases RD.op_cases op h1 h2 with e | e | e | e | e | e | e | e | e | e | e | e | e | e | e | e | e | e | e | e | e | e | e | e | e | e <;> subst e <;>
    first
    | (exfalso; omega)
    | (go_enter Try.func49, Try.ntmps49
       go_wp2_with fail
       go_ret
       exact ⟨rfl, rfl⟩)
abbrev iv (op a b n : Int) : Value := .agg #[.int .i64 op, .int .i64 a, .int .i64 b, .int .i32 n]
structure BMem (w : World) (B : Nat) (op a b n : Int) : Prop where
  h : w.heap[B]? = some (.cells #[.int .i64 op, .int .i64 a, .int .i64 b, .int .i32 n] 63 (0, 0))
theorem BMem.cells {w : World} {B : Nat} {op a b n : Int} (h : BMem w B op a b n) : w.cell? ⟨B, 0, none⟩ = some (.int .i64 op) ∧ w.cell? ⟨B, 1, none⟩ = some (.int .i64 a) ∧ w.cell? ⟨B, 2, none⟩ = some (.int .i64 b) ∧ w.cell? ⟨B, 3, none⟩ = some (.int .i32 n) := by
  simp [World.cell?, h.h]
theorem BMem.keep {w w' : World} {B : Nat} {op a b n : Int} {S : List Nat} (h : BMem w B op a b n) (ho : Only S w w') (hB : B ∉ S) : BMem w' B op a b n := ⟨(ho.same B (block_lt h.h) hB).trans h.h⟩
def DoP (g gw : Nat) (cv kv : Value) (m m' : Mach) (l s : Int) (w : World) (e : Ending) (w' : World) : Prop :=
  e = .returned (.int .i64 s) ∧ NMem w' g cv (wsl gw m.W.length) kv m' l ∧ WMem w' gw m'.W ∧ m'.W.length = m.W.length ∧ Only [g, gw] w w'
theorem only_drewN (S : List Nat) (w : World) (n : Nat) : Only S w (w.drewN n) := ⟨rfl, rfl, rfl, Nat.le_refl _, fun _ _ _ => rfl⟩
structure Ok33 (g gw : Nat) (m : Mach) (a b : Nat) (n : Int) : Prop where
  hR : RegOk m
  ha : a < 16
  hb : b < 16
  hn : I32 n
  hat : 0 ≤ m.at_ ∧ m.at_ ≤ 1000000
  hl : m.W.length ≤ 1000
  hgg : gw ≠ g
structure St (w w1 : World) (g gw B : Nat) (cv kv : Value) (m : Mach) (l op : Int) (a b : Nat) (n : Int) : Prop where
  h : NMem w1 g cv (wsl gw m.W.length) kv m l
  hw : WMem w1 gw m.W
  ho : Only [g, gw] w w1
  hB : BMem w1 B op a b n
  hb : B ≠ g ∧ B ≠ gw
theorem St.start {w : World} {g gw : Nat} {cv kv : Value} {m : Mach} {l op : Int} {a b : Nat} {n : Int} (h : NMem w g cv (wsl gw m.W.length) kv m l) (hw : WMem w gw m.W) :
    St w (w.alloc (.cells #[.int .i64 op, .int .i64 (a : Int), .int .i64 (b : Int), .int .i32 n] 63)) g gw w.heap.size cv kv m l op a b n := by
  have h1 := block_lt h.h
  have h2 := block_lt hw.h
  exact ⟨⟨look_old h.h⟩, ⟨look_old hw.h⟩, (Only.refl _ _).alloc _, ⟨heap_alloc_new _ _⟩, by omega⟩
theorem St.drewN {w w1 : World} {g gw B : Nat} {cv kv : Value} {m : Mach} {l op : Int} {a b : Nat} {n : Int} (S : St w w1 g gw B cv kv m l op a b n) (j : Nat) : St w (w1.drewN j) g gw B cv kv m l op a b n :=
  ⟨⟨S.h.h⟩, ⟨S.hw.h⟩, S.ho.trans (only_drewN _ _ _), ⟨S.hB.h⟩, S.hb⟩
theorem St.cells {w w1 : World} {g gw B : Nat} {cv kv : Value} {m : Mach} {l op : Int} {a b : Nat} {n : Int} (S : St w w1 g gw B cv kv m l op a b n) (ha : a < 16) (hb : b < 16) :
    w1.cell? ⟨B, 0, none⟩ = some (.int .i64 op) ∧ w1.cell? ⟨B, 1, none⟩ = some (.int .i64 a) ∧ w1.cell? ⟨B, 2, none⟩ = some (.int .i64 b) ∧ w1.cell? ⟨B, 3, none⟩ = some (.int .i32 n) ∧
    w1.cell? ⟨g, 1 + a, none⟩ = some (.int .i32 (m.R a)) ∧ w1.cell? ⟨g, 1 + b, none⟩ = some (.int .i32 (m.R b)) ∧ w1.cell? ⟨g, 2, none⟩ = some (.int .i32 (m.R 1)) := by
  obtain ⟨b0, b1, b2, b3⟩ := S.hB.cells
  exact ⟨b0, b1, b2, b3, S.h.cell (1 + a) (nc_reg cv _ kv m l ha), S.h.cell (1 + b) (nc_reg cv _ kv m l hb), S.h.cell 2 rfl⟩
theorem St.ng {w w1 : World} {g gw B : Nat} {cv kv : Value} {m : Mach} {l op : Int} {a b : Nat} {n : Int} (S : St w w1 g gw B cv kv m l op a b n) : B ∉ [g] := by simp; exact S.hb.1
theorem St.nw {w w1 : World} {g gw B : Nat} {cv kv : Value} {m : Mach} {l op : Int} {a b : Nat} {n : Int} (S : St w w1 g gw B cv kv m l op a b n) : B ∉ [gw] := by simp; exact S.hb.2
theorem St.fin {g gw B : Nat} {cv kv : Value} {m m' : Mach} {l s op : Int} {a b : Nat} {n : Int} {w w1 w2 : World} (S : St w w1 g gw B cv kv m l op a b n) (hgg : gw ≠ g) (hW : m'.W = m.W) (hm : NMem w2 g cv (wsl gw m.W.length) kv m' l) (ho2 : Only [g] w1 w2) : DoP g gw cv kv m m' l s w (.returned (.int .i64 s)) w2 :=
  ⟨rfl, hm, by rw [hW]; exact S.hw.keep ho2 (by simp; exact hgg), by rw [hW], S.ho.trans (ho2.mono (by simp))⟩
theorem ab_facts {m : Mach} {a b : Nat} (hR : RegOk m) (ha : a < 16) (hb : b < 16) : (a : Int) < 16 ∧ (b : Int) < 16 ∧ IntKind.i64.wrap (m.R a) = m.R a ∧ IntKind.i64.wrap (m.R b) = m.R b := by
  have h1 := hR a ha
  have h2 := hR b hb
  unfold I32 at h1 h2
  rw [IntKind.wrap_i64, IntKind.wrap_i64]; omega
def DoC (g gw : Nat) (cv kv : Value) (m : Mach) (l o : Int) (op a b : Nat) (n : Int) (w : World) : Prop :=
  Calls Try.prog 33 #[ptr g, iv o a b n] w (DoP g gw cv kv m (exA m op a b n).1 l (exA m op a b n).2 w)
theorem wrap_bv32 (v : BitVec 32) : IntKind.i32.wrap (v.toNat : Int) = v.toInt := by
  rw [IntKind.wrap_i32, BitVec.toInt_eq_toNat_cond]; have := v.isLt; split <;> omega
theorem wrap_bv64 (v : BitVec 64) : IntKind.i64.wrap (v.toNat : Int) = v.toInt := by
  rw [IntKind.wrap_i64, BitVec.toInt_eq_toNat_cond]; have := v.isLt; split <;> omega
theorem ext_bv (x : Int) (h : I32 x) : BitVec.ofInt 64 x = (BitVec.ofInt 32 x).signExtend 64 := by
  apply BitVec.eq_of_toInt_eq
  rw [BitVec.toInt_signExtend_of_le (by omega), BitVec.toInt_ofInt, BitVec.toInt_ofInt]
  unfold I32 at h
  simp only [Int.bmod]
  split <;> split <;> omega
theorem or64 (x y : Int) (hx : I32 x) (hy : I32 y) : bits BinOp.or IntKind.i64 x y = bits BinOp.or IntKind.i32 x y := by
  show IntKind.i64.wrap ((BitVec.ofInt 64 x ||| BitVec.ofInt 64 y).toNat : Int) = IntKind.i32.wrap ((BitVec.ofInt 32 x ||| BitVec.ofInt 32 y).toNat : Int)
  rw [wrap_bv64, wrap_bv32, ext_bv x hx, ext_bv y hy, ← BitVec.signExtend_or, BitVec.toInt_signExtend_of_le (by omega)]
theorem and64 (x y : Int) (hx : I32 x) (hy : I32 y) : bits BinOp.and IntKind.i64 x y = bits BinOp.and IntKind.i32 x y := by
  show IntKind.i64.wrap ((BitVec.ofInt 64 x &&& BitVec.ofInt 64 y).toNat : Int) = IntKind.i32.wrap ((BitVec.ofInt 32 x &&& BitVec.ofInt 32 y).toNat : Int)
  rw [wrap_bv64, wrap_bv32, ext_bv x hx, ext_bv y hy, ← BitVec.signExtend_and, BitVec.toInt_signExtend_of_le (by omega)]
theorem xor64 (x y : Int) (hx : I32 x) (hy : I32 y) : bits BinOp.xor IntKind.i64 x y = bits BinOp.xor IntKind.i32 x y := by
  show IntKind.i64.wrap ((BitVec.ofInt 64 x ^^^ BitVec.ofInt 64 y).toNat : Int) = IntKind.i32.wrap ((BitVec.ofInt 32 x ^^^ BitVec.ofInt 32 y).toNat : Int)
  rw [wrap_bv64, wrap_bv32, ext_bv x hx, ext_bv y hy, ← BitVec.signExtend_xor, BitVec.toInt_signExtend_of_le (by omega)]
theorem lo64 (x : Int) : bits BinOp.and IntKind.i64 x 4294967295 = x % 4294967296 := by
  have e : (BitVec.ofInt 64 x &&& BitVec.ofInt 64 4294967295).toNat = (x % 4294967296).toNat := by
    rw [BitVec.toNat_and, BitVec.toNat_ofInt, show (BitVec.ofInt 64 4294967295).toNat = 2 ^ 32 - 1 by decide, Nat.and_two_pow_sub_one_eq_mod]
    omega
  show IntKind.i64.wrap ((BitVec.ofInt 64 x &&& BitVec.ofInt 64 4294967295).toNat : Int) = _
  rw [e, IntKind.wrap_i64]; omega
theorem w3264 (x : Int) : IntKind.i32.wrap (IntKind.i64.wrap x) = IntKind.i32.wrap x := by
  rw [IntKind.wrap_i32, IntKind.wrap_i32, IntKind.wrap_i64]; omega
theorem mul_rng (x y : Int) (hx : I32 x) (hy : I32 y) : -4611686018427387904 ≤ x * y ∧ x * y ≤ 4611686018427387904 := by
  unfold I32 at hx hy
  have hX : x.natAbs ≤ 2147483648 := by omega
  have hY : y.natAbs ≤ 2147483648 := by omega
  have h : (x * y).natAbs ≤ 2147483648 * 2147483648 := by rw [Int.natAbs_mul]; exact Nat.mul_le_mul hX hY
  omega
theorem div_rng' {v : Int} (h : I32 v) (k : Nat) : I32 (v / 2 ^ k) := by
  have hp : (0 : Int) < 2 ^ k := Int.pow_pos (by decide)
  unfold I32 at h ⊢
  constructor
  · rw [Int.le_ediv_iff_mul_le hp]
    have h1 : (1 : Int) ≤ 2 ^ k := hp
    have : (-2147483648 : Int) * 2 ^ k ≤ -2147483648 * 1 := Int.mul_le_mul_of_nonpos_left (by decide) h1
    omega
  · have h1 : (1 : Int) ≤ 2 ^ k := hp
    have := Int.ediv_lt_of_lt_mul hp (show v < 2147483648 * 2 ^ k by
      have : (2147483648 : Int) * 1 ≤ 2147483648 * 2 ^ k := Int.mul_le_mul_of_nonneg_left h1 (by decide)
      omega)
    omega
theorem div_abs_rng (N D : Int) (h : -9223372036854775808 ≤ N ∧ N ≤ 9223372036854775807) (hD : D ≠ 0) (hx : ¬ (N = -9223372036854775808 ∧ D = -1)) : -9223372036854775808 ≤ N.tdiv D ∧ N.tdiv D ≤ 9223372036854775807 := by
  have e := tdiv_abs N D
  obtain ⟨A, hA⟩ : ∃ A, N.natAbs / D.natAbs = A := ⟨_, rfl⟩
  rw [hA] at e
  have h1 : A ≤ N.natAbs := by rw [← hA]; exact Nat.div_le_self _ _
  by_cases hN : N = -9223372036854775808
  · by_cases hD1 : D = 1
    · subst hN hD1; decide
    · have hD2 : 2 ≤ D.natAbs := by
        have : D ≠ -1 := fun e => hx ⟨hN, e⟩
        omega
      have h2 : A ≤ N.natAbs / 2 := by rw [← hA]; exact Nat.div_le_div_left hD2 (by omega)
      split at e <;> omega
  · split at e <;> omega
theorem mod_abs_rng (N D : Int) (h : -2147483648 ≤ D ∧ D ≤ 2147483647) (hD : D ≠ 0) : -2147483648 ≤ N.tmod D ∧ N.tmod D ≤ 2147483647 := by
  have e := tmod_abs N D
  obtain ⟨A, hA⟩ : ∃ A, N.natAbs % D.natAbs = A := ⟨_, rfl⟩
  rw [hA] at e
  have h1 : A < D.natAbs := by rw [← hA]; exact Nat.mod_lt _ (by omega)
  split at e <;> omega
end Go.Proofs.Ytpcocfdgcihpdaa.rdw
