/-
  LEMMAS OF NUMBERS for SimReckons: words that wrap, masks, quotients.
-/
import Derived.Test.YtpcocfdgcihpdaaREngZ
import Derived.IntWalk
import Derived.WalkArith
namespace Go.Proofs.Ytpcocfdgcihpdaa.simReckons
open Go
open Go.Proofs.YtpcocfdgcihpdaaR
set_option linter.unusedVariables false
set_option linter.unusedSimpArgs false
theorem i32_i64 (x : Int) : IntKind.i32.wrap (IntKind.i64.wrap x) = IntKind.i32.wrap x := by rw [IntKind.wrap_i32, IntKind.wrap_i64, IntKind.wrap_i32]; omega
theorem rng32 (y : Int) : -2147483648 ≤ IntKind.i32.wrap y ∧ IntKind.i32.wrap y ≤ 2147483647 := by rw [IntKind.wrap_i32]; omega
theorem i64_i32 (y : Int) : IntKind.i64.wrap (IntKind.i32.wrap y) = IntKind.i32.wrap y := IntWalk.i64_in _ (by have := rng32 y; omega)
theorem i32_i32 (y : Int) : IntKind.i32.wrap (IntKind.i32.wrap y) = IntKind.i32.wrap y := IntWalk.i32_in _ (by have := rng32 y; omega)
theorem u32_i (y : Int) (h : -2147483648 ≤ y ∧ y ≤ 2147483647) : IntKind.u32.wrap y = if y < 0 then y + 4294967296 else y := by
  rw [IntKind.wrap_u32]; split <;> omega
/-- the lowest bits -/
theorem and_mask (n k : Nat) (hk : k ≤ n) (x : Int) : ((BitVec.ofInt n x &&& BitVec.ofInt n (2 ^ k - 1)).toNat : Int) = x % 2 ^ k := by
  rw [BitVec.toNat_and, BitVec.toNat_ofInt, BitVec.toNat_ofInt]
  have h2 : ((2 : Int) ^ k - 1) % ((2 ^ n : Nat) : Int) = ((2 ^ k - 1 : Nat) : Int) := by
    have hle : (2 : Nat) ^ k ≤ 2 ^ n := Nat.pow_le_pow_right (by omega) hk
    have hpos : 0 < (2 : Nat) ^ k := Nat.pow_pos (by omega)
    have e : ((2 : Int) ^ k - 1) = ((2 ^ k - 1 : Nat) : Int) := by
      rw [Int.natCast_sub (by omega)]; simp
    rw [e]
    exact Int.emod_eq_of_lt (by omega) (by omega)
  rw [h2, Int.toNat_natCast, Nat.and_two_pow_sub_one_eq_mod]
  have hn : (0 : Int) ≤ x % ((2 ^ n : Nat) : Int) := Int.emod_nonneg _ (by have : 0 < (2 : Nat) ^ n := Nat.pow_pos (by omega); omega)
  rw [Int.natCast_emod, Int.toNat_of_nonneg hn]
  have hd : ((2 ^ k : Nat) : Int) ∣ ((2 ^ n : Nat) : Int) := by
    rw [Int.natCast_dvd_natCast]; exact Nat.pow_dvd_pow 2 hk
  rw [Int.emod_emod_of_dvd _ hd]
  simp
theorem m31 (x : Int) : ((BitVec.ofInt IntKind.i32.bits x &&& BitVec.ofInt IntKind.i32.bits 31).toNat : Int) = x % 32 := and_mask 32 5 (by omega) x
theorem m31' (x : Int) : ((BitVec.ofInt IntKind.u64.bits x &&& BitVec.ofInt IntKind.u64.bits 31).toNat : Int) = x % 32 := and_mask 64 5 (by omega) x
theorem mff (x : Int) : ((BitVec.ofInt IntKind.i64.bits x &&& BitVec.ofInt IntKind.i64.bits 4294967295).toNat : Int) = x % 4294967296 := and_mask 64 32 (by omega) x
/-- two words, put together -/
theorem or_hi (y : Nat) (hy : y < 4294967296) : ((BitVec.ofInt IntKind.i64.bits (-4294967296) ||| BitVec.ofInt IntKind.i64.bits (y : Int)).toNat : Int) = 18446744069414584320 + y := by
  rw [BitVec.toNat_or, BitVec.toNat_ofInt, BitVec.toNat_ofInt]
  have e1 : ((-4294967296 : Int) % ((2 ^ IntKind.i64.bits : Nat) : Int)).toNat = 4294967295 <<< 32 := by decide
  have e2 : ((y : Int) % ((2 ^ IntKind.i64.bits : Nat) : Int)).toNat = y := by
    show ((y : Int) % ((2 ^ 64 : Nat) : Int)).toNat = y
    omega
  rw [e1, e2, ← Nat.shiftLeft_add_eq_or_of_lt (by omega : y < 2 ^ 32)]
  simp [Nat.shiftLeft_eq]
theorem or_lo (y : Nat) (hy : y < 4294967296) : ((BitVec.ofInt IntKind.i64.bits 0 ||| BitVec.ofInt IntKind.i64.bits (y : Int)).toNat : Int) = y := by
  rw [BitVec.toNat_or, BitVec.toNat_ofInt, BitVec.toNat_ofInt]
  have e1 : ((0 : Int) % ((2 ^ IntKind.i64.bits : Nat) : Int)).toNat = 0 := by decide
  have e2 : ((y : Int) % ((2 ^ IntKind.i64.bits : Nat) : Int)).toNat = y := by
    show ((y : Int) % ((2 ^ 64 : Nat) : Int)).toNat = y
    omega
  rw [e1, e2]; simp
theorem wrap_u64' (n : Int) : IntKind.u64.wrap n = n % 18446744073709551616 := by simp [IntKind.wrap, IntKind.bits, IntKind.signed]
theorem fdiv31 (a : Int) (h : -2147483648 ≤ a ∧ a ≤ 2147483647) : a.fdiv (2 ^ min (Int.toNat 31) IntKind.i32.bits) = if a < 0 then -1 else 0 := by
  have e : ((2 : Int) ^ min (Int.toNat 31) IntKind.i32.bits) = 2147483648 := by decide
  rw [e, Int.fdiv_eq_ediv_of_nonneg _ (by decide)]
  split <;> omega
theorem word (a : Int) (h : -2147483648 ≤ a ∧ a ≤ 2147483647) :
    IntKind.i64.wrap ↑(BitVec.ofInt IntKind.i64.bits (IntKind.i64.wrap (IntKind.i64.wrap (a.fdiv (2 ^ min (Int.toNat 31) IntKind.i32.bits)) * 2 ^ min (Int.toNat 32) IntKind.i64.bits)) ||| BitVec.ofInt IntKind.i64.bits (IntKind.i64.wrap (IntKind.u32.wrap a))).toNat = a := by
  have e : ((2 : Int) ^ min (Int.toNat 32) IntKind.i64.bits) = 4294967296 := by decide
  rw [fdiv31 a h, e, u32_i a h]
  by_cases hn : a < 0
  · rw [if_pos hn, if_pos hn]
    obtain ⟨y, hy⟩ : ∃ y : Nat, a + 4294967296 = (y : Int) := ⟨(a + 4294967296).toNat, by omega⟩
    have e1 : IntKind.i64.wrap (IntKind.i64.wrap (-1) * 4294967296) = -4294967296 := by decide
    have e2 : IntKind.i64.wrap (y : Int) = (y : Int) := IntWalk.i64_in _ (by omega)
    rw [e1, hy, e2, or_hi y (by omega), IntKind.wrap_i64]
    omega
  · rw [if_neg hn, if_neg hn]
    obtain ⟨y, hy⟩ : ∃ y : Nat, a = (y : Int) := ⟨a.toNat, by omega⟩
    have e1 : IntKind.i64.wrap (IntKind.i64.wrap 0 * 4294967296) = 0 := by decide
    have e2 : IntKind.i64.wrap (y : Int) = (y : Int) := IntWalk.i64_in _ (by omega)
    rw [e1, hy, e2, or_lo y (by omega), e2]
theorem cnt (b : Int) : IntKind.i32.wrap ↑(BitVec.ofInt IntKind.i32.bits b &&& BitVec.ofInt IntKind.i32.bits 31).toNat = b % 32 := by
  rw [m31]; exact IntWalk.i32_in _ (by omega)
theorem cnt' (b : Int) : IntKind.u64.wrap ↑(BitVec.ofInt IntKind.u64.bits (IntKind.u64.wrap b) &&& BitVec.ofInt IntKind.u64.bits 31).toNat = b % 32 := by
  rw [m31', wrap_u64', wrap_u64']; omega
theorem kmin (b : Int) (n : Nat) (hn : 32 ≤ n) : min (b % 32).toNat n = (b % 32).toNat := by omega
theorem cnt_c (b : Int) : decide (IntKind.i32.wrap ↑(BitVec.ofInt IntKind.i32.bits b &&& BitVec.ofInt IntKind.i32.bits 31).toNat < 0) = false := by
  rw [cnt]; exact decide_eq_false (by omega)
theorem neq_c {x y : Int} (h : x = y) : (!decide (x = y)) = false := by rw [decide_eq_true h]; rfl
theorem and_c (x : Int) : (!decide (IntKind.i32.wrap (IntKind.i64.wrap (IntKind.i32.wrap x)) = IntKind.i32.wrap x)) = false := neq_c (by rw [i64_i32, i32_i32])
theorem mul_c (a b : Int) (ha : -2147483648 ≤ a ∧ a ≤ 2147483647) (hb : -2147483648 ≤ b ∧ b ≤ 2147483647) :
    (!decide (IntKind.i32.wrap (a * b) = IntKind.i32.wrap (IntKind.i64.wrap (IntKind.i64.wrap a * IntKind.i64.wrap b)))) = false :=
  neq_c (by rw [i32_i64, IntWalk.i64_in a (by omega), IntWalk.i64_in b (by omega)])
theorem shl_c (a b : Int) (ha : -2147483648 ≤ a ∧ a ≤ 2147483647) :
    (!decide (IntKind.i32.wrap (a * 2 ^ min (IntKind.i32.wrap ↑(BitVec.ofInt IntKind.i32.bits b &&& BitVec.ofInt IntKind.i32.bits 31).toNat).toNat IntKind.i32.bits) =
      IntKind.i32.wrap (IntKind.i64.wrap (IntKind.i64.wrap a * 2 ^ min (IntKind.u64.wrap ↑(BitVec.ofInt IntKind.u64.bits (IntKind.u64.wrap b) &&& BitVec.ofInt IntKind.u64.bits 31).toNat).toNat IntKind.i64.bits)))) = false :=
  neq_c (by rw [cnt, cnt', i32_i64, IntWalk.i64_in a (by omega), kmin b _ (by decide), kmin b _ (by decide)])
theorem fd_rng (a : Int) (k : Nat) (ha : -2147483648 ≤ a ∧ a ≤ 2147483647) : -2147483648 ≤ a.fdiv (2 ^ k) ∧ a.fdiv (2 ^ k) ≤ 2147483647 := by
  have hp : 0 < (2 : Nat) ^ k := Nat.pow_pos (by omega)
  obtain ⟨e, he⟩ : ∃ e : Nat, (2 : Nat) ^ k = e + 1 := ⟨2 ^ k - 1, by omega⟩
  have hd : ((2 : Int) ^ k) = (e : Int) + 1 := by
    have : ((2 ^ k : Nat) : Int) = ((e + 1 : Nat) : Int) := by rw [he]
    simpa using this
  rw [hd, Int.fdiv_eq_ediv_of_nonneg _ (by omega)]
  exact ⟨Int.le_ediv_of_mul_le (by omega) (by omega), Int.ediv_le_of_le_mul (by omega) (by omega)⟩
theorem sar_c (a b : Int) (ha : -2147483648 ≤ a ∧ a ≤ 2147483647) :
    (!decide (a.fdiv (2 ^ min (IntKind.i32.wrap ↑(BitVec.ofInt IntKind.i32.bits b &&& BitVec.ofInt IntKind.i32.bits 31).toNat).toNat IntKind.i32.bits) =
      IntKind.i32.wrap ((IntKind.i64.wrap a).fdiv (2 ^ min (IntKind.u64.wrap ↑(BitVec.ofInt IntKind.u64.bits (IntKind.u64.wrap b) &&& BitVec.ofInt IntKind.u64.bits 31).toNat).toNat IntKind.i64.bits)))) = false :=
  neq_c (by rw [cnt, cnt', IntWalk.i64_in a (by omega), kmin b _ (by decide), kmin b _ (by decide), IntWalk.i32_in _ (fd_rng a _ ha)])
theorem shr_c (a b : Int) (ha : -2147483648 ≤ a ∧ a ≤ 2147483647) :
    (!decide (IntKind.i32.wrap ((IntKind.u32.wrap a).fdiv (2 ^ min (IntKind.i32.wrap ↑(BitVec.ofInt IntKind.i32.bits b &&& BitVec.ofInt IntKind.i32.bits 31).toNat).toNat IntKind.u32.bits)) =
      IntKind.i32.wrap ((IntKind.i64.wrap ↑(BitVec.ofInt IntKind.i64.bits (IntKind.i64.wrap a) &&& BitVec.ofInt IntKind.i64.bits 4294967295).toNat).fdiv (2 ^ min (IntKind.u64.wrap ↑(BitVec.ofInt IntKind.u64.bits (IntKind.u64.wrap b) &&& BitVec.ofInt IntKind.u64.bits 31).toNat).toNat IntKind.i64.bits)))) = false :=
  neq_c (by
    rw [cnt, cnt', kmin b _ (by decide), kmin b _ (by decide), mff, IntWalk.i64_in a (by omega)]
    have : IntKind.i64.wrap (a % 4294967296) = IntKind.u32.wrap a := by rw [IntKind.wrap_i64, IntKind.wrap_u32]; omega
    rw [this])
/-- of two that are not below 0 -/
theorem qr (c d : Int) (hc : 0 ≤ c ∧ c ≤ 2147483648) (hd : 0 < d ∧ d ≤ 2147483648) :
    (0 ≤ c.tdiv d ∧ c.tdiv d ≤ c) ∧ (0 ≤ c.tmod d ∧ c.tmod d < d) := by
  rw [Int.tdiv_eq_ediv_of_nonneg hc.1, Int.tmod_eq_emod_of_nonneg hc.1]
  exact ⟨⟨Int.ediv_nonneg hc.1 (by omega), Int.ediv_le_self _ hc.1⟩, Int.emod_nonneg _ (by omega), Int.emod_lt_of_pos _ hd.1⟩
theorem us (c : Int) (h : 0 < c ∧ c ≤ 2147483648) : IntKind.u64.wrap (0 - IntKind.u64.wrap (-c)) = c := by rw [wrap_u64', wrap_u64']; omega
theorem up (c : Int) (h : 0 ≤ c ∧ c ≤ 2147483648) : IntKind.u64.wrap c = c := by rw [wrap_u64']; omega
theorem ip (c : Int) (h : -2147483648 ≤ c ∧ c ≤ 2147483648) : IntKind.i64.wrap c = c := IntWalk.i64_in _ (by omega)

theorem ndT {β : Type} {c : Bool} {x y r : Option β} (h : c = true) (hx : x = r) : Eng.nd c x y = r := by subst h; exact hx
theorem ndF {β : Type} {c : Bool} {x y r : Option β} (h : c = false) (hy : y = r) : Eng.nd c x y = r := by subst h; exact hy
end Go.Proofs.Ytpcocfdgcihpdaa.simReckons
