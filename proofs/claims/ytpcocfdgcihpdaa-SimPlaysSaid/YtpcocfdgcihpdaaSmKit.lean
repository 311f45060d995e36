/-
  What the walks of chapter 20 take of chapter 19's.
-/
import Derived.Test.YtpcocfdgcihpdaaRdDec
import Derived.StillTailTactics
import Derived.Laws.CopyOwn
import Derived.Deep.OwnRows
import Derived.Laws.OwnMore
import Derived.Laws.AppendOwnNone
import Derived.Deep.RegionLaw
set_option maxHeartbeats 64000000
set_option maxRecDepth 1000000
set_option linter.unusedVariables false
set_option linter.unusedSimpArgs false
namespace Go.Proofs.Ytpcocfdgcihpdaa.wr
open Go Go.RowKit
open Go.Proofs.Ytpcocfdgcihpdaa 
set_option linter.unusedVariables false
set_option linter.unusedSimpArgs false
theorem info5 : (Try.prog.info? 5).map (fun i => (i.zero, i.size, i.bytes)) = some (some (.int .u8 0), 1, 1) := by kernel_rfl
def cat (Bs : Nat → List Int) (k : Nat) : List Int := (List.range k).flatMap Bs
theorem cat_succ (Bs : Nat → List Int) (k : Nat) : cat Bs (k + 1) = cat Bs k ++ Bs k := by simp [cat, List.range_succ]
theorem cat_le (Bs : Nat → List Int) (h : ∀ i, (Bs i).length ≤ 10) : ∀ k, (cat Bs k).length ≤ 10 * k
  | 0 => by simp [cat]
  | k + 1 => by rw [cat_succ, List.length_append]; have := cat_le Bs h k; have := h k; omega
def u8s (l : List Int) : List Value := l.map (Value.int .u8)
theorem u8s_append (a b : List Int) : u8s (a ++ b) = u8s a ++ u8s b := by simp [u8s]
theorem own_below {w w' : World} {base e size n : Nat} {v : Value} {xs : List Value} (h : w.ownsRow base e size v n xs) (hb : Below w.heap.size w w') : w'.ownsRow base e size v n xs := by
  obtain ⟨h1, h2⟩ := h
  refine ⟨h1, ?_⟩
  rcases h2 with h2 | ⟨g, cap, cur, hv, hg, hh, hr⟩
  · exact .inl h2
  · refine .inr ⟨g, cap, cur, hv, hg, ?_, hr⟩
    rw [hb.block g ?_]
    · exact hh
    · apply Nat.lt_of_not_le
      intro hge
      have hn : w.heap[g]? = none := by simp [hge]
      rw [hn] at hh; cases hh
structure At (w : World) (b off : Nat) (op a x n : Int) : Prop where
  c0 : w.cell? ⟨b, off, none⟩ = some (.int .i64 op)
  c1 : w.cell? ⟨b, off + 1, none⟩ = some (.int .i64 a)
  c2 : w.cell? ⟨b, off + 2, none⟩ = some (.int .i64 x)
  c3 : w.cell? ⟨b, off + 3, none⟩ = some (.int .i32 n)
def Ins (w : World) (B : Nat) (ad : Option Addr) (len : Nat) (O A X M : Nat → Int) : Prop :=
  ∀ i, i < len → ∃ b off, ad = some ⟨b, off, none⟩ ∧ b < B ∧ At w b (off + i * 4) (O i) (A i) (X i) (M i)
theorem At.mono {w w' : World} {B b off : Nat} {op a x n : Int} (h : At w b off op a x n) (hb : Below B w w') (hlt : b < B) : At w' b off op a x n :=
  ⟨(hb.cell hlt).trans h.c0, (hb.cell hlt).trans h.c1, (hb.cell hlt).trans h.c2, (hb.cell hlt).trans h.c3⟩
theorem Ins.mono {w w' : World} {B B' : Nat} {ad : Option Addr} {len : Nat} {O A X M : Nat → Int} (h : Ins w B ad len O A X M) (hb : Below B w w') (hB : B ≤ B') : Ins w' B' ad len O A X M := by
  intro i hi
  obtain ⟨b, off, h1, h2, h3⟩ := h i hi
  exact ⟨b, off, h1, by omega, h3.mono hb h2⟩
end Go.Proofs.Ytpcocfdgcihpdaa.wr
namespace Go.Proofs.Ytpcocfdgcihpdaa.rdw
open Go Go.RowKit
open Go.Proofs.Ytpcocfdgcihpdaa Go.Proofs.Ytpcocfdgcihpdaa.wr Go.Proofs.Ytpcocfdgcihpdaa.x86enc
theorem decode17_out (ad : Option Addr) (n cap : Nat) (at_ : Int) (w : World) (h : at_ < 0 ∨ (n : Int) ≤ at_) (hn : n ≤ 9223372036854775807) :
    Calls Try.prog 38 #[.slice ad n cap, .int .i64 at_] w fun e w' => e = .returned (decV (.err 1)) ∧ Below w.heap.size w w' := by
  have zz : ((w.alloc (.cells #[.int .i64 0, .int .i64 0, .int .i64 0, .int .i32 0] 30)).heap[w.heap.size]? = some Z4) := heap_alloc_new _ _
  obtain ⟨g0, g1, g2, g3⟩ := cells4 (fin4 zz (.int .i64 0) (.int .i64 0) (.int .i64 0) (.int .i32 0))
  by_cases h1 : at_ < 0
  · go_enter Try.func38, Try.ntmps38
    go_wp2_with fail
    refine bodyPost_ret (v := decV (.err 1)) (by simp [decV, results, results17, go_sem, g0, g1, g2, g3]) rfl ⟨rfl, ?_⟩
    first | exact (Below.refl _ _).alloc (Nat.le_refl _) _ | exact (((((Below.refl _ _).alloc (Nat.le_refl _) _).setCell (Nat.le_refl _) _).setCell (Nat.le_refl _) _).setCell (Nat.le_refl _) _).setCell (Nat.le_refl _) _
  · have h2 : (n : Int) ≤ at_ := by omega
    have h1d : decide (at_ < 0) = false := by simp; omega
    go_enter Try.func38, Try.ntmps38
    go_wp2_with fail
    refine bodyPost_ret (v := decV (.err 1)) (by simp [decV, results, results17, go_sem, g0, g1, g2, g3]) rfl ⟨rfl, ?_⟩
    first | exact (Below.refl _ _).alloc (Nat.le_refl _) _ | exact (((((Below.refl _ _).alloc (Nat.le_refl _) _).setCell (Nat.le_refl _) _).setCell (Nat.le_refl _) _).setCell (Nat.le_refl _) _).setCell (Nat.le_refl _) _
theorem own_row {w : World} {B n : Nat} {v : Value} {bs : List Int} (h : w.ownsRow B 5 1 v bs.length (u8s bs)) (hn : bs ≠ []) : ∃ g cap, v = .slice (some ⟨g, 0, none⟩) bs.length cap ∧ bs.length ≤ cap ∧ cap ≤ 9223372036854775807 ∧ Row w g 0 bs := by
  have h0 := h
  have hlt := h.lt
  obtain ⟨h1, h2⟩ := h
  rcases h2 with ⟨hv, hn0⟩ | ⟨g, cap, cur, rfl, hg, hh, hn0, hcap, hsz, htake⟩
  · exact absurd (List.length_eq_zero_iff.1 hn0) hn
  · refine ⟨g, cap, rfl, hn0, ?_, (hlt g rfl).2, fun j hj => ?_⟩
    · unfold maxLen at hcap; omega
    · rw [Nat.zero_add, h0.cellAt j (by omega)]
      simp [u8s, List.getD, hj]
def I32 (n : Int) : Prop := -2147483648 ≤ n ∧ n ≤ 2147483647
theorem fit_of {op a b n : Int} (h : encE op a b n = 0) (hn : I32 n) : ∃ k : Nat, op = (k : Int) ∧ RD.Fit ⟨k, a, b, n⟩ := by
  by_cases h1 : 1 ≤ op ∧ op ≤ 26
  · obtain ⟨k, rfl⟩ := Int.eq_ofNat_of_zero_le (show 0 ≤ op by omega)
    refine ⟨k, rfl, by simp only; omega, by simp only; omega, ?_⟩
    cases hv : RD.valid k a b n with
    | true => rfl
    | false =>
      have := (enc_no k (by omega) (by omega) a b n hn hv).1
      rw [h] at this; cases this
  · exfalso
    have e := encO_other op a b n (by omega) (by omega) (by omega) (by omega) (by omega) (by omega) (by omega) (by omega) (by omega) (by omega) (by omega) (by omega) (by omega) (by omega) (by omega) (by omega) (by omega) (by omega) (by omega) (by omega) (by omega) (by omega) (by omega) (by omega) (by omega) (by omega)
    unfold encE at h
    rw [e] at h
    revert h
    decide
def d0 : RD.Ins := ⟨0, 0, 0, 0⟩
theorem enc_bytes {k : Nat} (h1 : 1 ≤ k) (h2 : k ≤ 26) {a b n : Int} (hv : RD.valid k a b n = true) : RD.isBytes (RD.enc k a b n) := by
  obtain ⟨ha, hb, hn⟩ := (RD.valid_iff _ _ _ _).1 hv
  intro v hv
  unfold RD.enc at hv
  rcases List.mem_append.1 hv with h | h
  · exact head_bytes h1 h2 ha hb v h
  · rcases RD.nb_cases k with e | e | e <;> rw [e] at h <;> simp only [RD.le, List.mem_cons, List.not_mem_nil, or_false] at h
    · rw [h]; omega
    · rcases h with h | h | h | h <;> (rw [h]; omega)
def Arr (w : World) (ad : Option Addr) (n cap : Nat) (x : List Int) : Prop := x.length = n ∧ n ≤ cap ∧ cap ≤ 9223372036854775807 ∧ RD.isBytes x ∧ (0 < n → ∃ b off, ad = some ⟨b, off, none⟩ ∧ Row w b off x)
theorem Arr.mono {w w' : World} {ad : Option Addr} {n cap : Nat} {x : List Int} (h : Arr w ad n cap x) (hb : Below w.heap.size w w') : Arr w' ad n cap x := by
  obtain ⟨h1, h2, h3, h4, h5⟩ := h
  refine ⟨h1, h2, h3, h4, fun hn => ?_⟩
  obtain ⟨b, off, e, hr⟩ := h5 hn
  exact ⟨b, off, e, hr.mono hb⟩
theorem own_slice {w : World} {base e size n : Nat} {v : Value} {xs : List Value} (h : w.ownsRow base e size v n xs) : ∃ ad cap, v = .slice ad n cap := by
  obtain ⟨h1, h2⟩ := h
  rcases h2 with ⟨hv, hn⟩ | ⟨g, cap, cur, rfl, _⟩
  · rw [hn]; exact ⟨none, 0, hv⟩
  · exact ⟨_, cap, rfl⟩
def DecAt (x : List Int) (at_ : Int) (d : RD.Dec) : Prop := (0 ≤ at_ ∧ at_ < (x.length : Int) ∧ RD.Reads (x.drop at_.toNat) d) ∨ ((at_ < 0 ∨ (x.length : Int) ≤ at_) ∧ d = .err 1)
theorem DecAt.unique {x : List Int} {at_ : Int} {d d' : RD.Dec} (h : DecAt x at_ d) (h' : DecAt x at_ d') : d = d' := by
  rcases h with ⟨h1, h2, h3⟩ | ⟨h1, rfl⟩ <;> rcases h' with ⟨q1, q2, q3⟩ | ⟨q1, rfl⟩
  · exact h3.unique q3
  · omega
  · omega
  · rfl
theorem Arr.row {w : World} {ad : Option Addr} {n cap : Nat} {x : List Int} (h : Arr w ad n cap x) (hn : 0 < n) : ∃ b off, ad = some ⟨b, off, none⟩ ∧ Row w b off x := h.2.2.2.2 hn
theorem dec17F (ad : Option Addr) (n cap : Nat) (at_ : Int) (x : List Int) (w : World) (h : Arr w ad n cap x) :
    Calls Try.prog 38 #[.slice ad n cap, .int .i64 at_] w fun e w' => ∃ d, DecAt x at_ d ∧ e = .returned (decV d) ∧ Below w.heap.size w w' := by
  have h0 := h
  obtain ⟨h1, h2, h3, h4, h5⟩ := h
  by_cases hn : 0 ≤ at_ ∧ at_ < (n : Int)
  · obtain ⟨b, off, rfl, hr⟩ := h5 (by omega)
    subst h1
    have := decode17 b off cap at_.toNat x w (by omega) h2 h3 h4 hr
    rw [Int.toNat_of_nonneg hn.1] at this
    refine this.mono fun e w' hh => ?_
    obtain ⟨⟨d, hd, he⟩, hb⟩ := hh
    exact ⟨d, .inl ⟨hn.1, hn.2, hd⟩, he, hb⟩
  · exact (decode17_out ad n cap at_ w (by omega) (by omega)).mono fun e w' hh => ⟨_, .inr ⟨by rw [h1]; omega, rfl⟩, hh.1, hh.2⟩
theorem own_empty (w : World) (B : Nat) (hB : B ≤ w.heap.size) : (w.alloc (.cells #[] 5)).ownsRow B 5 1 (.slice (some ⟨w.heap.size, 0, none⟩) 0 0) 0 [] := by
  refine ⟨by simp, .inr ⟨w.heap.size, 0, #[], rfl, hB, heap_alloc_new _ _, Nat.le_refl _, by simp, by simp, by simp⟩⟩
theorem src_bytes {w : World} {blk base : Nat} {bs : List Int} (h : ∀ j, j < bs.length → w.cell? ⟨blk, base + j, none⟩ = some (.int .u8 (bs.getD j 0))) : ∀ j u, (u8s bs)[j]? = some u → w.cell? ((⟨blk, base, none⟩ : Addr).add j) = some u := by
  intro j u hj
  rw [u8s, List.getElem?_map] at hj
  rw [Go.WideShapes.add_plain]
  by_cases hlt : j < bs.length
  · rw [h j hlt]
    have hbj : bs[j]? = some (bs.getD j 0) := by simp [List.getD, hlt]
    rw [hbj] at hj
    exact hj
  · have hbj : bs[j]? = none := by simp; omega
    rw [hbj] at hj; cases hj
theorem one_u8s (bs : List Int) : ∀ u ∈ u8s bs, u.oneCell' = true := by
  intro u hu; simp only [u8s, List.mem_map] at hu; obtain ⟨_, _, rfl⟩ := hu; rfl
theorem enc13Y (op a b n : Int) (bs : List Int) (hE : encE op a b n = 0) (hbs : encB op a b n = bs) (hne : bs ≠ []) (w : World) : Calls Try.prog 27 #[.agg #[.int .i64 op, .int .i64 a, .int .i64 b, .int .i32 n]] w fun e w' =>
    ∃ blk base cp : Nat, e = .returned (.tuple #[.slice (some ⟨blk, base, none⟩) bs.length cp, .int .i64 0]) ∧ blk < w'.heap.size ∧ Hid (∀ j, j < bs.length → w'.cell? ⟨blk, base + j, none⟩ = some (.int .u8 (bs.getD j 0))) ∧ Below w.heap.size w w' := by
  refine (enc13C op a b n w).mono fun e w' h => ?_
  obtain ⟨v, rfl, hby, hb⟩ := h
  rw [hbs] at hby
  obtain ⟨blk, base, cp, rfl, h2, h3, h4⟩ := (hby.resolve_left (fun h => hne h.1)).2
  exact ⟨blk, base, cp, by rw [hE], h3, Lib.hid h4, hb⟩
theorem enc13N (op a b n : Int) (E : Int) (hE : encE op a b n = E) (w : World) : Calls Try.prog 27 #[.agg #[.int .i64 op, .int .i64 a, .int .i64 b, .int .i32 n]] w fun e w' =>
    ∃ v : Value, e = .returned (.tuple #[v, .int .i64 E]) ∧ Below w.heap.size w w' := by
  refine (enc13C op a b n w).mono fun e w' h => ?_
  obtain ⟨v, rfl, hby, hb⟩ := h
  exact ⟨v, by rw [hE], hb⟩
theorem fit_bytes {op a b n : Int} (h : encE op a b n = 0) (hn : I32 n) : RD.isBytes (encB op a b n) := by
  obtain ⟨k, rfl, hf⟩ := fit_of h hn
  rw [(enc_yes k hf.1 hf.2.1 a b n hf.2.2).2]
  exact enc_bytes hf.1 hf.2.1 hf.2.2
end Go.Proofs.Ytpcocfdgcihpdaa.rdw
