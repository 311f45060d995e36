/-
  SimTraps: the plain part: the instructions, where they stand; the machine's parts joined.
-/
import Derived.Test.YtpcocfdgcihpdaaSmG
import Derived.Test.YtpcocfdgcihpdaaSmCode
namespace Go.Proofs.Ytpcocfdgcihpdaa.rdw
open Go Go.RowKit Go.BigFrame
open Go.Proofs.Ytpcocfdgcihpdaa Go.Proofs.Ytpcocfdgcihpdaa.wr Go.Proofs.Ytpcocfdgcihpdaa.x86enc
set_option linter.unusedVariables false
set_option linter.unusedSimpArgs false
def pl (L : List RD.Ins) (j : Nat) : Nat := (RD.cat (L.take j)).length
theorem take_succ_d (L : List RD.Ins) (j : Nat) (h : j < L.length) : L.take (j + 1) = L.take j ++ [L.getD j d0] := by
  rw [List.take_succ_eq_append_getElem h]
  congr 1; simp [List.getD, h]
def elen (q : RD.Ins) : Nat := (RD.enc q.op q.a q.b q.n).length
theorem cat_app (l m : List RD.Ins) : RD.cat (l ++ m) = RD.cat l ++ RD.cat m := by simp [RD.cat]
theorem cat_one (q : RD.Ins) : RD.cat [q] = RD.enc q.op q.a q.b q.n := by simp [RD.cat]
theorem pl_succ (L : List RD.Ins) (j : Nat) (h : j < L.length) : pl L (j + 1) = pl L j + elen (L.getD j d0) := by
  unfold pl elen
  rw [take_succ_d L j h, cat_app, cat_one, List.length_append]
theorem elen_pos (q : RD.Ins) : 1 ≤ elen q ∧ elen q ≤ 7 := by
  unfold elen
  rw [RD.enc_length]
  have := RD.head_pos q.op q.a q.b
  have := RD.head_le q.op q.a q.b
  omega
theorem pl_le (L : List RD.Ins) (j : Nat) (h : j < L.length) : pl L j + elen (L.getD j d0) ≤ (RD.cat L).length := by
  rw [← pl_succ L j h]
  unfold pl
  have e : RD.cat L = RD.cat (L.take (j + 1)) ++ RD.cat (L.drop (j + 1)) := by rw [← cat_app, List.take_append_drop]
  rw [e, List.length_append]; omega
theorem reads_at (L : List RD.Ins) (hL : ∀ q ∈ L, RD.Fit q) (j : Nat) (h : j < L.length) : RD.Reads ((RD.cat L).drop (pl L j)) (.ok (L.getD j d0).op (L.getD j d0).a (L.getD j d0).b (L.getD j d0).n (elen (L.getD j d0))) := by
  have hf := hL _ (getD_mem h)
  have e : RD.cat L = RD.cat (L.take j) ++ (RD.enc (L.getD j d0).op (L.getD j d0).a (L.getD j d0).b (L.getD j d0).n ++ RD.cat (L.drop (j + 1))) := by
    rw [← List.append_assoc, ← cat_one, ← cat_app, ← take_succ_d L j h, ← cat_app, List.take_append_drop]
  unfold pl elen
  rw [e, List.drop_left' rfl]
  exact RD.Reads.ok hf.1 hf.2.1 ⟨hf.2.2, _, rfl⟩
/-- a number, a sum, a trap, each time -/
def body3 (x : Nat → Int) (k : Nat) : List RD.Ins := [⟨1, 3, 0, x k⟩, ⟨5, 0, 3, 0⟩, ⟨26, 0, 0, (k : Int)⟩]
def prg (x : Nat → Int) : Nat → List RD.Ins
  | 0 => []
  | k + 1 => prg x k ++ body3 x k
theorem prg_length (x : Nat → Int) : ∀ k, (prg x k).length = 3 * k
  | 0 => rfl
  | k + 1 => by simp only [prg, List.length_append, prg_length x k, body3, List.length_cons, List.length_nil]; omega
theorem getD_at (p q : List RD.Ins) (k n : Nat) (h : n = p.length + k) : (p ++ q).getD n d0 = q.getD k d0 := by
  subst h
  simp only [List.getD]
  rw [List.getElem?_append_right (by omega)]
  congr 2; omega
theorem prg_get (x : Nat → Int) (t : List RD.Ins) : ∀ (n i : Nat), i < n → (prg x n ++ t).getD (3 * i) d0 = ⟨1, 3, 0, x i⟩ ∧ (prg x n ++ t).getD (3 * i + 1) d0 = ⟨5, 0, 3, 0⟩ ∧ (prg x n ++ t).getD (3 * i + 2) d0 = ⟨26, 0, 0, (i : Int)⟩
  | 0, i, h => by omega
  | n + 1, i, h => by
    simp only [prg, List.append_assoc]
    by_cases hi : i < n
    · have ih := prg_get x (body3 x n ++ t) n i hi
      exact ih
    · obtain rfl : i = n := by omega
      have hl := prg_length x i
      exact ⟨by rw [getD_at _ _ 0 _ (by omega)]; rfl, by rw [getD_at _ _ 1 _ (by omega)]; rfl, by rw [getD_at _ _ 2 _ (by omega)]; rfl⟩
theorem prg_last (x : Nat → Int) (q : RD.Ins) (n : Nat) : (prg x n ++ [q]).getD (3 * n) d0 = q := by
  have hl := prg_length x n
  rw [getD_at _ _ 0 _ (by omega)]; rfl
theorem prg_fit (x : Nat → Int) : ∀ n, n ≤ 12 → (∀ i, i < n → I32 (x i)) → ∀ q ∈ prg x n, RD.Fit q
  | 0, _, _, q, hq => by cases hq
  | n + 1, hn, hx, q, hq => by
    simp only [prg] at hq
    rcases List.mem_append.1 hq with h | h
    · exact prg_fit x n (by omega) (fun i hi => hx i (by omega)) q h
    · have hxn := hx n (by omega)
      simp only [body3, List.mem_cons, List.not_mem_nil, or_false] at h
      rcases h with rfl | rfl | rfl
      · refine ⟨by simp, by simp, (RD.valid_iff _ _ _ _).2 ⟨by first | rfl | simp, by first | rfl | simp, ?_⟩⟩
        show RD.okN 4 (x n) = true
        rw [RD.okN_4]; exact hxn
      · exact ⟨by decide, by decide, by decide⟩
      · refine ⟨by simp, by simp, (RD.valid_iff _ _ _ _).2 ⟨by first | rfl | simp, by first | rfl | simp, ?_⟩⟩
        show RD.okN 1 (n : Int) = true
        rw [RD.okN_1]; omega
def ret : RD.Ins := ⟨25, 0, 0, 0⟩
theorem all_fit (x : Nat → Int) (n : Nat) (hn : n ≤ 12) (hx : ∀ i, i < n → I32 (x i)) : ∀ q ∈ prg x n ++ [ret], RD.Fit q := by
  intro q hq
  rcases List.mem_append.1 hq with h | h
  · exact prg_fit x n hn hx q h
  · rw [List.mem_singleton.1 h]; exact ⟨by decide, by decide, by decide⟩
/-! ### the machine's parts, joined -/
theorem SimW.start {B : Nat} {w : World} {g gr gw gb cb : Nat} {bs : List Int} {nw : Nat} (h : NewM B w g gr gw gb cb bs nw) (hb : RD.isBytes bs) (hl : bs.length ≤ 100000) : SimW w g gr gw gb cb bs { m0 with W := List.replicate nw 0 } := by
  refine ⟨⟨0, 0, 0, 0, ⟨?_⟩⟩, RMem.start h.hr, h.row, ⟨?_⟩, h.dis, h.cap, ⟨hb, hl⟩, fun r hr => by unfold I32; simp [m0]⟩
  · rw [List.length_replicate]; exact h.h
  · rw [h.hw]
    congr 2
    apply Array.toList_inj.1
    rw [toList_madeCells_one]
    simp
theorem setW (g gr gw gb cb : Nat) (bs : List Int) (m : Mach) (i : Nat) (v : Int) (w : World) (h : SimW w g gr gw gb cb bs m) (hi : i < m.W.length) :
    Calls Try.prog 20 #[ptr g, .int .i64 (i : Int), .int .i32 v] w fun e w' => e = .returned (.int .i64 0) ∧ SimW w' g gr gw gb cb bs { m with W := m.W.set i v } ∧ Only [g, gr, gw] w w' := by
  obtain ⟨⟨op0, a0, b0, n0, hm⟩, ⟨L, hr⟩, hrow, hwm, hdis, hcap, hbyt, hregs⟩ := h
  refine (setWord20 g gw _ _ m op0 a0 b0 n0 i m.W.length v m.W rfl hi (fun e => hdis.2.1 e.symm) w hm hwm).mono fun e w' hh => ?_
  obtain ⟨rfl, h1, h2, ho⟩ := hh
  refine ⟨rfl, ⟨⟨op0, a0, b0, n0, ⟨by rw [List.length_set]; exact h1.h⟩⟩, ⟨L, hr.keep ho (by simp; exact hdis.2.2.2.1) (fun q hq => by simp at hq ⊢; exact hq.2.2)⟩, hrow.keep ho (by simp; exact fun e => hdis.2.2.2.2.2 e.symm), h2, hdis, hcap, hbyt, hregs⟩, ho.mono (by simp)⟩
theorem getW (g gr gw gb cb : Nat) (bs : List Int) (m : Mach) (i : Nat) (w : World) (h : SimW w g gr gw gb cb bs m) (hi : i < m.W.length) :
    Calls Try.prog 22 #[ptr g, .int .i64 (i : Int)] w fun e w' => e = .returned (.tuple #[.int .i32 (m.W.getD i 0), .int .i64 0]) ∧ w' = w := by
  obtain ⟨⟨op0, a0, b0, n0, hm⟩, ⟨L, hr⟩, hrow, hwm, hdis, hcap, hbyt, hregs⟩ := h
  exact word22 g gw _ _ m op0 a0 b0 n0 i m.W.length m.W rfl hi w hm hwm
theorem getN (g gr gw gb cb : Nat) (bs : List Int) (m : Mach) (w : World) (h : SimW w g gr gw gb cb bs m) : Calls Try.prog 21 #[ptr g] w fun e w' => e = .returned (.int .i64 m.N) ∧ w' = w := by
  obtain ⟨⟨op0, a0, b0, n0, hm⟩, _⟩ := h
  exact codeN21 g _ _ _ m op0 a0 b0 n0 w hm
theorem getR0 (g gr gw gb cb : Nat) (bs : List Int) (m : Mach) (w : World) (h : SimW w g gr gw gb cb bs m) : Calls Try.prog 16 #[ptr g, .int .i64 0] w fun e w' => e = .returned (.int .i32 (m.R 0)) ∧ w' = w := by
  obtain ⟨⟨op0, a0, b0, n0, hm⟩, _⟩ := h
  exact reg16_0 g _ _ _ m op0 a0 b0 n0 w hm
end Go.Proofs.Ytpcocfdgcihpdaa.rdw
