/-
  caraferef21.Eval: a run of code.
-/
import Derived.Test.YtondggcbldnhcaaGreatIrEv
import Derived.Test.YtondggcbldnhcaaGreatIrCk2
import Derived.Test.YtondggcbldnhcaaGreatIrAz
import Derived.Laws.Closers25b
namespace Go.Proofs.YtondggcbldnhcaaGreat.irx
open Go Go.RowKit
open Go.Proofs.YtondggcbldnhcaaGreat
set_option linter.unusedVariables false
set_option linter.unusedSimpArgs false
theorem size34 : (Tryz.prog.info? 34).map (·.size) = some 3 := by kernel_rfl
theorem results8 : Tryz.f8.results = #[.cell 6 34] := by kernel_rfl
/-- what a run keeps in memory -/
structure Inv8 (w : World) (cad : Option Addr) (cap al len R : Nat) (rad : Option Addr) (G : Nat) (wr : World) (s : St) : Prop where
  bF : wr.heap[w.heap.size]? = some (.cells #[.int .i64 al, .int .i64 R, .slice cad len cap] 29 (0, 0))
  bX : wr.heap[w.heap.size + 1]? = some (.cells #[.int .i64 0, .int .i32 0, .int .i64 0] 34 (0, 0))
  bG : 0 < R → rad = some ⟨G, 0, none⟩ ∧ w.heap.size + 2 ≤ G ∧ ∃ junk, wr.heap[G]? = some (.cells (i32s s.regs ++ junk).toArray 21 (0, 0))
  below : Below w.heap.size w wr
  size : w.heap.size + 2 ≤ wr.heap.size
theorem Inv8.on {w : World} {cad : Option Addr} {cap al len R : Nat} {rad : Option Addr} {G : Nat} {wr w1 : World} {s : St} (h : Inv8 w cad cap al len R rad G wr s) (hb : Below wr.heap.size wr w1) : Inv8 w cad cap al len R rad G w1 s := by
  have h1 := h.size
  refine ⟨(hb.block _ (by omega)).trans h.bF, (hb.block _ (by omega)).trans h.bX, fun hR => ?_, h.below.trans (hb.mono (by omega)), Nat.le_trans h1 hb.size⟩
  obtain ⟨e, hg, junk, hj⟩ := h.bG hR
  exact ⟨e, hg, junk, (hb.block _ (block_lt hj)).trans hj⟩
theorem Inv8.state {w : World} {cad : Option Addr} {cap al len R : Nat} {rad : Option Addr} {G : Nat} {wr : World} {s s' : St} (h : Inv8 w cad cap al len R rad G wr s) (h1 : s'.regs = s.regs) : Inv8 w cad cap al len R rad G wr s' := by
  obtain ⟨a, b, c, d, e⟩ := h
  exact ⟨a, b, by rw [h1]; exact c, d, e⟩
theorem Inv8.setG {w : World} {cad : Option Addr} {cap al len R : Nat} {rad : Option Addr} {G : Nat} {wr : World} {s : St} (h : Inv8 w cad cap al len R rad G wr s) (i v : Int) (hr : s.regs.length = R) (h0 : 0 ≤ i) (hi : i < R) {s' : St} (hs : s'.regs = setR s i v) : Inv8 w cad cap al len R rad G (wr.setCell ⟨G, i.toNat, none⟩ (.int .i32 v)) s' := by
  obtain ⟨e, hg, junk, hj⟩ := h.bG (by omega)
  refine ⟨(Below.heap_setCell _ _ _ _ (by simp; omega)).trans h.bF, (Below.heap_setCell _ _ _ _ (by simp; omega)).trans h.bX, fun _ => ⟨e, hg, junk, ?_⟩, h.below.setCell (by simp only; omega) _, by simpa [World.setCell] using h.size⟩
  rw [setCell_row hj, hs, setR]
  have hl : i.toNat < (i32s s.regs).length := by simp [i32s]; omega
  simp [i32s, List.set_append, hl]
  intro hx
  simp [i32s] at hl
  omega
theorem Inv8.reg {w : World} {cad : Option Addr} {cap al len R : Nat} {rad : Option Addr} {G : Nat} {wr : World} {s : St} (h : Inv8 w cad cap al len R rad G wr s) (hr : s.regs.length = R) {i : Int} (h0 : 0 ≤ i) (h1 : i < R) : wr.cell? ⟨G, i.toNat, none⟩ = some (.int .i32 (rg s i)) := by
  have hi : i.toNat < s.regs.length := by omega
  obtain ⟨e, hg, junk, hj⟩ := h.bG (by omega)
  simp only [World.cell?, hj]
  simp [i32s, rg, List.getD, hi, List.getElem?_append]
theorem Inv8.drew {w : World} {cad : Option Addr} {cap al len R : Nat} {rad : Option Addr} {G : Nat} {wr : World} {s : St} (h : Inv8 w cad cap al len R rad G wr s) : Inv8 w cad cap al len R rad G wr.drew s := ⟨h.bF, h.bX, h.bG, h.below.drew, h.size⟩
theorem Inv8.drewN {w : World} {cad : Option Addr} {cap al len R : Nat} {rad : Option Addr} {G : Nat} {wr : World} {s : St} (h : Inv8 w cad cap al len R rad G wr s) (q : Nat) : Inv8 w cad cap al len R rad G (wr.drewN q) s :=
  ⟨h.bF, h.bX, h.bG, ⟨h.below.os, h.below.tape, h.below.output, h.below.size, h.below.block⟩, h.size⟩
/-- what is so of a state -/
structure Fit8 (len R pn : Nat) (s : St) : Prop where
  at_ : s.at_ < len
  regs : s.regs.length = R
  met : s.met ≤ pn
  done : s.done ≤ 4194304 + s.met
  btw : (s.btw : Int) ≤ 16 * (1024 + len)
  rng : ∀ i, I32 (rg s i)
theorem i32_0 : I32 0 := by unfold I32; omega
theorem rng_getD {l : List Int} (h : ∀ x ∈ l, I32 x) (i : Nat) : I32 (l.getD i 0) := by
  by_cases hi : i < l.length
  · have : l.getD i 0 = l[i] := by simp [List.getD, hi]
    rw [this]; exact h _ (List.getElem_mem hi)
  · have : l.getD i 0 = 0 := by simp [List.getD]; rw [List.getElem?_eq_none (by omega)]; rfl
    rw [this]; exact i32_0
theorem rng_start {F : Fn} {args : List Int} (h : ∀ x ∈ args, I32 x) (i : Int) : I32 (rg (start F args) i) := by
  refine rng_getD (fun x hx => ?_) _
  simp only [start, List.mem_append, List.mem_replicate] at hx
  rcases hx with hx | ⟨_, rfl⟩
  · exact h x hx
  · exact i32_0
theorem rng_set {s : St} (h : ∀ i, I32 (rg s i)) {j v : Int} (hv : I32 v) {s' : St} (hs : s'.regs = setR s j v) : ∀ i, I32 (rg s' i) := by
  intro i
  unfold rg
  rw [hs, setR]
  simp only [List.getD, List.getElem?_set]
  split
  · split
    · exact hv
    · exact i32_0
  · exact h i
/-- the row that ref.Eval has made -/
theorem row_open {w wr : World} {v : Value} {R : Nat} {l : List Int} (h : wr.ownsRow (w.heap.size + 2) 21 1 v R (i32s l)) (hl : l.length = R) :
    ∃ rad cp G, v = .slice rad R cp ∧ (0 < R → rad = some ⟨G, 0, none⟩ ∧ w.heap.size + 2 ≤ G ∧ ∃ junk, wr.heap[G]? = some (.cells (i32s l ++ junk).toArray 21 (0, 0))) := by
  obtain ⟨_, h2⟩ := h
  rcases h2 with ⟨rfl, rfl⟩ | ⟨g, cap, cur, rfl, hg, hh, hn, hcap, hsz, htake⟩
  · exact ⟨none, 0, 0, rfl, fun h => by omega⟩
  · refine ⟨_, cap, g, rfl, fun _ => ⟨rfl, hg, cur.toList.drop R, ?_⟩⟩
    rw [← htake, Nat.mul_one, List.take_append_drop]
    simpa using hh
theorem why_of_chk {F : Fn} (h : chk ar F = 0) : ∀ k, k < F.len → F.op k = 6 → why ar 6 (F.n k) = 0 := by
  intro k hk h6
  unfold chk at h
  split at h
  · cases h
  · split at h
    · rename_i h1; exact absurd h h1
    · rename_i h1
      have hz := firstBad_zero (f := rightAt ar F) (k := F.len) (by omega) k hk
      unfold rightAt right at hz
      rw [h6] at hz
      split at hz
      · cases hz
      · split at hz
        · cases hz
        · rename_i hf
          simp only [not_or, Decidable.not_not] at hf
          exact hf.2
theorem cpo {w W : World} {aad : Option Addr} {args : List Int} (ha : Args w w.heap.size aad args) (hb : Below w.heap.size w W) :
    0 < args.length → ∃ q, aad = some q ∧ ∀ j u, (i32s args)[j]? = some u → W.cell? (q.add j) = some u := by
  intro hp
  obtain ⟨b, off, rfl, hb', _⟩ := ha 0 hp
  refine ⟨_, rfl, fun j v hj => ?_⟩
  have hjl : j < args.length := by
    apply Nat.lt_of_not_le
    intro hge
    have : (i32s args)[j]? = none := by simp [i32s]; omega
    rw [this] at hj; cases hj
  obtain ⟨b', off', he, hb2, hc⟩ := ha j hjl
  injection he with he
  injection he with e1 e2 _
  subst e1 e2
  rw [Go.WideShapes.add_plain, hb.cell hb2, hc]
  have : (i32s args)[j]? = some (.int .i32 (args.getD j 0)) := by simp [i32s, List.getD, hjl]
  rw [this] at hj; exact hj
theorem rng_wrap (x : Int) : I32 (wrap32 x) := by unfold I32 wrap32; omega
theorem rng_bits (op : BinOp) (a b : Int) : I32 (bits op .i32 a b) := ⟨bits_lo_i32 op a b, bits_hi_i32 op a b⟩
theorem two_rng (op a b : Int) (ha : I32 a) : I32 (two op a b).1 := by
  unfold two
  repeat' split
  all_goals dsimp only
  all_goals first | with_reducible exact rng_wrap _ | with_reducible exact i32_0 | with_reducible exact rng_bits _ _ _ | (rw [← shr_rng ha]; with_reducible exact rng_wrap _)
theorem one_rng (op a : Int) : I32 (one op a).1 := by
  unfold one
  split
  · exact rng_wrap _
  · exact i32_0
set_option maxHeartbeats 40000000 in
set_option maxRecDepth 1000000 in
theorem eval8 (P R : Int) (len : Nat) (op ds a b n to : Nat → Int) (cad : Option Addr) (cap : Nat) (aad : Option Addr) (acap : Nat) (args : List Int) (pi : Int) (w : World) (hlen : len ≤ 60) (hpi : pi ≤ 1048576)
    (hN : ∀ k, I32 (n k)) (hc : Code_ w w.heap.size cad ⟨P, R, len, op, ds, a, b, n, to⟩) (ha : Args w w.heap.size aad args) (hcap : args.length ≤ acap) (hnone : aad = none → args.length = 0 ∧ acap = 0) (haI : ∀ x ∈ args, I32 x) (hck : chk ar ⟨P, R, len, op, ds, a, b, n, to⟩ = 0) (hal : (args.length : Int) = P) :
    Calls Tryz.prog 8 #[fval P R cad len cap, .slice aad args.length acap, .int .i64 pi] w fun e w' => e = .returned (.agg #[.int .i64 (runS ar ⟨P, R, len, op, ds, a, b, n, to⟩ pi.toNat (start ⟨P, R, len, op, ds, a, b, n, to⟩ args)).1, .int .i32 (runS ar ⟨P, R, len, op, ds, a, b, n, to⟩ pi.toNat (start ⟨P, R, len, op, ds, a, b, n, to⟩ args)).2.1, .int .i64 (runS ar ⟨P, R, len, op, ds, a, b, n, to⟩ pi.toNat (start ⟨P, R, len, op, ds, a, b, n, to⟩ args)).2.2]) ∧ Below w.heap.size w w' := by
  obtain ⟨pn, hpnD⟩ : ∃ pn : Nat, pi.toNat = pn := ⟨_, rfl⟩
  have hpn : pn ≤ 1048576 := by omega
  rw [hpnD]
  have hpe : Hid (pi.toNat = pn) := hpnD
  clear hpnD
  obtain ⟨i0, hi, hz0, hz1, hz2⟩ := info_parts info21
  have C := fun w0 (hb : Below w.heap.size w w0) (hs : w.heap.size ≤ w0.heap.size) => check10 ⟨P, R, len, op, ds, a, b, n, to⟩ cad cap w0 hlen (fun k => w64 (hN k)) (hc.mono hb hs)
  rw [hck] at C
  subst hal
  have hR : ∃ R' : Nat, R = R' ∧ args.length ≤ R' ∧ R' ≤ 34 := by
    have hh : head ⟨args.length, R, len, op, ds, a, b, n, to⟩ = false := by
      cases h : head ⟨args.length, R, len, op, ds, a, b, n, to⟩ with
      | false => rfl
      | true => unfold chk at hck; rw [h] at hck; simp at hck
    simp only [head, Bool.or_eq_false_iff, decide_eq_false_iff_not] at hh
    exact ⟨R.toNat, by omega, by omega, by omega⟩
  obtain ⟨R, rfl, hal, hR34⟩ := hR
  have hb0 : Below w.heap.size w ((w.alloc (.cells #[.int .i64 args.length, .int .i64 R, .slice cad len cap] 29)).alloc (.cells #[.int .i64 0, .int .i32 0, .int .i64 0] 34)) := ((Below.refl _ _).alloc (Nat.le_refl _) _).alloc (by simp) _
  have hs0 : ((w.alloc (.cells #[.int .i64 args.length, .int .i64 R, .slice cad len cap] 29)).alloc (.cells #[.int .i64 0, .int .i32 0, .int .i64 0] 34)).heap.size = w.heap.size + 2 := by simp
  have hF0 : ((w.alloc (.cells #[.int .i64 args.length, .int .i64 R, .slice cad len cap] 29)).alloc (.cells #[.int .i64 0, .int .i32 0, .int .i64 0] 34)).heap[w.heap.size]? = some (.cells #[.int .i64 args.length, .int .i64 R, .slice cad len cap] 29 (0, 0)) := by
    rw [Below.heap_alloc _ _ _ (by simp)]; exact heap_alloc_new w _
  have hX0 : ((w.alloc (.cells #[.int .i64 args.length, .int .i64 R, .slice cad len cap] 29)).alloc (.cells #[.int .i64 0, .int .i32 0, .int .i64 0] 34)).heap[w.heap.size + 1]? = some (.cells #[.int .i64 0, .int .i32 0, .int .i64 0] 34 (0, 0)) := by
    have := heap_alloc_new (w.alloc (.cells #[.int .i64 args.length, .int .i64 R, .slice cad len cap] 29)) (.cells #[.int .i64 0, .int .i32 0, .int .i64 0] 34)
    simpa using this
  have C0 := C _ hb0 (by omega)
  have hOK := ok_of_chk hck
  have hOKH : Hid (∀ k, k < len → (1 ≤ op k ∧ op k ≤ 9) ∧ fine R len (op k) (ds k) (a k) (b k) (n k) (to k) = true ∧ (op k ≠ 5 → op k ≠ 7 → op k ≠ 8 → k + 1 < len)) := hOK
  have hWYH : Hid (∀ k, k < len → op k = 6 → why ar 6 (n k) = 0) := why_of_chk hck
  generalize hRES : runS ar ⟨args.length, R, len, op, ds, a, b, n, to⟩ pn (start ⟨args.length, R, len, op, ds, a, b, n, to⟩ args) = RES
  have hRUN : Hid (runS ar ⟨args.length, R, len, op, ds, a, b, n, to⟩ pn (start ⟨args.length, R, len, op, ds, a, b, n, to⟩ args) = RES) := hRES
  clear hRES
  have hlen0 : 0 < len := by
    apply Nat.pos_of_ne_zero
    intro h0
    unfold chk at hck
    subst h0
    split at hck
    · cases hck
    · simp [firstBad] at hck
  clear hOK
  go_enter Tryz.func8, Tryz.ntmps8
  go_wp2_with (first | (go_at_call 10; refine C0.mono ?_; rintro e w1 ⟨rfl, hb1⟩; have hb1' := hb0.trans (hb1.mono (by omega)); have hF1 := (hb1.block w.heap.size (by omega)).trans hF0; have hX1 := (hb1.block (w.heap.size + 1) (by omega)).trans hX0; have hs1 : w.heap.size + 2 ≤ w1.heap.size := (by have := hb1.size; omega); have hf0 : w1.cell? ⟨w.heap.size, 0, none⟩ = some (.int .i64 args.length) := (by simp [World.cell?, hF1]); have hf1 : w1.cell? ⟨w.heap.size, 1, none⟩ = some (.int .i64 R) := (by simp [World.cell?, hF1])))
  clear hb0 hs0 hF0 hX0 C0 hb1 C hck
  have hal8 : ((R - args.length : Nat) : Int) = (R : Int) - args.length := by omega
  have hw8 : IntKind.i64.wrap ((R : Int) - (args.length : Int)) = (R : Int) - args.length := by rw [IntKind.wrap_i64]; omega
  have hS1 : (w1.drew.alloc (.cells #[] 21)).heap.size = w1.heap.size + 1 := by show (w1.alloc _).heap.size = _; simp
  have hfA : (w1.alloc (.cells #[] 21)).drew.cell? ⟨w.heap.size, 1, none⟩ = some (.int .i64 R) := by
    have : (w1.alloc (.cells #[] 21)).heap[w.heap.size]? = _ := (Below.heap_alloc w1 _ _ (by omega)).trans hF1
    simp [World.cell?, World.drew, this]
  go_cut [7] from 18 (fun v wc => ∃ rad cp G, v = .slice rad R cp ∧ Inv8 w cad cap args.length len R rad G wc (start ⟨args.length, R, len, op, ds, a, b, n, to⟩ args))
  case first =>
    go_region_law (first
      | (refine step_append_own rfl (.tmp 29) (.tmp 30) 25 rfl (w.heap.size + 2) 21 i0 (.int .i32 0) 1 4 Tryz.underlying25 hi hz0 hz1 hz2 rfl (by decide) _ 0 [] rfl (World.ownsRow_lit w1.drew #[] 0 (by show w.heap.size + 2 ≤ w1.heap.size; omega) (by decide) rfl) aad args.length acap (i32s args) rfl (by simp [i32s]) (cpo ha (hb1'.drew.alloc (by show w.heap.size ≤ w1.heap.size; omega) _)) (one32 _) hnone (by unfold maxLen; omega) (by omega) (Nat.le_of_lt (Nat.lt_of_lt_of_eq (by omega) hS1.symm)) ?_; intro v2 w2 hown2 hgrow2; have hF2 := (hgrow2.block w.heap.size (Nat.lt_of_lt_of_eq (by omega) hS1.symm) (by show some w.heap.size ≠ some w1.heap.size; intro e; injection e with e; omega)).trans ((Below.heap_alloc w1.drew _ _ (by show w.heap.size < w1.heap.size; omega)).trans hF1); have hX2 := (hgrow2.block (w.heap.size + 1) (Nat.lt_of_lt_of_eq (by omega) hS1.symm) (by show some (w.heap.size + 1) ≠ some w1.heap.size; intro e; injection e with e; omega)).trans ((Below.heap_alloc w1.drew _ _ (by show w.heap.size + 1 < w1.heap.size; omega)).trans hX1); have hs2 : w.heap.size + 2 ≤ w2.heap.size := (Nat.le_trans (Nat.le_of_lt (Nat.lt_of_lt_of_eq (by omega) hS1.symm)) hgrow2.size); have hb2 : Below w.heap.size w w2 := (hb1'.drew.alloc (by show w.heap.size ≤ w1.heap.size; omega) _).grown hgrow2 (Nat.le_of_lt (Nat.lt_of_lt_of_eq (by omega) hS1.symm)) (fun k hk => by have hk' : some w1.heap.size = some k := hk; injection hk' with hk'; omega); have hfz : w2.cell? ⟨w.heap.size, 1, none⟩ = some (.int .i64 R) := (by simp [World.cell?, hF2]))
      | (refine step_append_zeros rfl (.tmp 31) (.tmp 36) 25 3 rfl (w.heap.size + 2) 21 .i64 i0 (.int .i32 0) 4 Tryz.underlying25 Tryz.underlying3 hi hz0 hz1 hz2 rfl rfl v2 (0 + args.length) ([] ++ i32s args) rfl hown2.out (R - args.length) (by rw [hal8]; first | rfl | exact congrArg (Value.int IntKind.i64) hw8) (by omega) (by omega) (by omega) ?_; intro v3 w3 hown3 hgrow3))
    all_goals
      have hF3 := (hgrow3.block w.heap.size (by omega) (by intro e; have := (hown2.out.lt _ e.symm).1; omega)).trans hF2
      have hX3 := (hgrow3.block (w.heap.size + 1) (by omega) (by intro e; have := (hown2.out.lt _ e.symm).1; omega)).trans hX2
      have hs3 : w.heap.size + 2 ≤ w3.heap.size := Nat.le_trans hs2 hgrow3.size
      have hb3 : Below w.heap.size w w3 := hb2.grown hgrow3 (by omega) (fun k hk => by have := (hown2.out.lt _ hk).1; omega)
      have hn3 : 0 + args.length + (R - args.length) = R := by omega
      have hl3 : [] ++ i32s args ++ List.replicate (R - args.length) (Value.int .i32 0) = i32s (start ⟨args.length, R, len, op, ds, a, b, n, to⟩ args).regs := by simp [start, i32s]
      have hown4 := hown3.out
      rw [hn3, hl3] at hown4
      obtain ⟨rad, cp, G, rfl, hG⟩ := row_open hown4 (by simp [start]; omega)
      go_wp2
      go_meet
      case rel => exact ⟨rad, cp, G, rfl, hF3, hX3, hG, hb3, hs3⟩
  case rest =>
    obtain ⟨rad, cp, G, rfl, hI0⟩ := hcut
    clear hF1 hX1 hf0 hf1 hb1' hs1 hal8 hw8 hS1 hfA hi hz0 hz1 hz2
    have hFit0 : Fit8 len R pn (start ⟨args.length, R, len, op, ds, a, b, n, to⟩ args) := ⟨hlen0, by simp [start]; omega, Nat.zero_le _, by simp [start], by simp [start]; omega, rng_start haI⟩
    have hcH : Hid (Code_ w w.heap.size cad ⟨args.length, R, len, op, ds, a, b, n, to⟩) := hc
    clear hc ha hlen0 hcap hnone haI
    go_wp2
    go_loopg [8, 9, 10, 11] (meas pn (start ⟨args.length, R, len, op, ds, a, b, n, to⟩ args)) (fun gk m_ bt at_dn at_ wr => ∃ s : St, gk = meas pn s ∧ m_ = .int .i64 s.met ∧ bt = .int .i64 s.btw ∧ at_dn = .int .i64 s.done ∧ at_ = .int .i64 s.at_ ∧ Inv8 w cad cap args.length len R rad G wr s ∧ Fit8 len R pn s ∧ Hid (runS ar ⟨args.length, R, len, op, ds, a, b, n, to⟩ pn s = RES))
    case atStart => exact ⟨_, rfl, rfl, rfl, rfl, rfl, hI0, hFit0, hRUN⟩
    case round =>
      obtain ⟨s, rfl, rfl, rfl, rfl, rfl, hI, hfit, hrun⟩ := hrel
      clear hI0 hFit0 hRUN
      obtain ⟨pc, dn, bt, met, regs⟩ := s
      have hpc : pc < len := hfit.at_
      have hregs : regs.length = R := hfit.regs
      have hmet : met ≤ pn := hfit.met
      have hdn : dn ≤ 4194304 + met := hfit.done
      have hbt : (bt : Int) ≤ 16 * (1024 + len) := hfit.btw
      have hrng : ∀ i, I32 (rg ⟨pc, dn, bt, met, regs⟩ i) := hfit.rng
      obtain ⟨cb, off, he, hb, hat⟩ := hcH.out pc hpc
      simp only at he hat
      subst he
      obtain ⟨d0, d1, d2, d3, d4, d5⟩ := hat.mono hI.below hb
      have hsw := hI.size
      have hfc : wr.cell? ⟨w.heap.size, 2, none⟩ = some (.slice (some ⟨cb, off, none⟩) len cap) := by simp [World.cell?, hI.bF]
      have hIa : Inv8 w (some ⟨cb, off, none⟩) cap args.length len R rad G (wr.alloc (.cells #[.int .i64 (op pc), .int .i64 (ds pc), .int .i64 (a pc), .int .i64 (b pc), .int .i32 (n pc), .int .i64 (to pc)] 45)) ⟨pc, dn, bt, met, regs⟩ := hI.on ((Below.refl _ _).alloc (Nat.le_refl _) _)
      have hfa : (wr.alloc (.cells #[.int .i64 (op pc), .int .i64 (ds pc), .int .i64 (a pc), .int .i64 (b pc), .int .i32 (n pc), .int .i64 (to pc)] 45)).cell? ⟨w.heap.size, 2, none⟩ = some (.slice (some ⟨cb, off, none⟩) len cap) := by simp [World.cell?, hIa.bF]
      have hy0 : (wr.alloc (.cells #[.int .i64 (op pc), .int .i64 (ds pc), .int .i64 (a pc), .int .i64 (b pc), .int .i32 (n pc), .int .i64 (to pc)] 45)).cell? ⟨w.heap.size + 1, 0, none⟩ = some (.int .i64 0) := by simp [World.cell?, hIa.bX]
      have hy1 : (wr.alloc (.cells #[.int .i64 (op pc), .int .i64 (ds pc), .int .i64 (a pc), .int .i64 (b pc), .int .i32 (n pc), .int .i64 (to pc)] 45)).cell? ⟨w.heap.size + 1, 1, none⟩ = some (.int .i32 0) := by simp [World.cell?, hIa.bX]
      have hy2 : (wr.alloc (.cells #[.int .i64 (op pc), .int .i64 (ds pc), .int .i64 (a pc), .int .i64 (b pc), .int .i32 (n pc), .int .i64 (to pc)] 45)).cell? ⟨w.heap.size + 1, 2, none⟩ = some (.int .i64 0) := by simp [World.cell?, hIa.bX]
      have hzX : ∀ j, (wr.alloc (.cells #[.int .i64 (op pc), .int .i64 (ds pc), .int .i64 (a pc), .int .i64 (b pc), .int .i32 (n pc), .int .i64 (to pc)] 45)).frozen? ⟨w.heap.size + 1, j, none⟩ = false := fun j => by simp [World.frozen?, hIa.bX]
      have hi0 : (wr.alloc (.cells #[.int .i64 (op pc), .int .i64 (ds pc), .int .i64 (a pc), .int .i64 (b pc), .int .i32 (n pc), .int .i64 (to pc)] 45)).cell? ⟨wr.heap.size, 0, none⟩ = some (.int .i64 (op pc)) := by rw [World.cell?_alloc_at _ _ _ _ rfl]; rfl
      have hi1 : (wr.alloc (.cells #[.int .i64 (op pc), .int .i64 (ds pc), .int .i64 (a pc), .int .i64 (b pc), .int .i32 (n pc), .int .i64 (to pc)] 45)).cell? ⟨wr.heap.size, 1, none⟩ = some (.int .i64 (ds pc)) := by rw [World.cell?_alloc_at _ _ _ _ rfl]; rfl
      have hi2 : (wr.alloc (.cells #[.int .i64 (op pc), .int .i64 (ds pc), .int .i64 (a pc), .int .i64 (b pc), .int .i32 (n pc), .int .i64 (to pc)] 45)).cell? ⟨wr.heap.size, 2, none⟩ = some (.int .i64 (a pc)) := by rw [World.cell?_alloc_at _ _ _ _ rfl]; rfl
      have hi3 : (wr.alloc (.cells #[.int .i64 (op pc), .int .i64 (ds pc), .int .i64 (a pc), .int .i64 (b pc), .int .i32 (n pc), .int .i64 (to pc)] 45)).cell? ⟨wr.heap.size, 3, none⟩ = some (.int .i64 (b pc)) := by rw [World.cell?_alloc_at _ _ _ _ rfl]; rfl
      have hi4 : (wr.alloc (.cells #[.int .i64 (op pc), .int .i64 (ds pc), .int .i64 (a pc), .int .i64 (b pc), .int .i32 (n pc), .int .i64 (to pc)] 45)).cell? ⟨wr.heap.size, 4, none⟩ = some (.int .i32 (n pc)) := by rw [World.cell?_alloc_at _ _ _ _ rfl]; rfl
      have hi5 : (wr.alloc (.cells #[.int .i64 (op pc), .int .i64 (ds pc), .int .i64 (a pc), .int .i64 (b pc), .int .i32 (n pc), .int .i64 (to pc)] 45)).cell? ⟨wr.heap.size, 5, none⟩ = some (.int .i64 (to pc)) := by rw [World.cell?_alloc_at _ _ _ _ rfl]; rfl
      obtain ⟨⟨ho1, ho9⟩, hfine, hnext⟩ := hOKH.out pc hpc
      go_upto_region 11 with fail
      generalize (wr.alloc (.cells #[.int .i64 (op pc), .int .i64 (ds pc), .int .i64 (a pc), .int .i64 (b pc), .int .i32 (n pc), .int .i64 (to pc)] 45)) = wa at *
      generalize wr.heap.size = I at *
      clear d0 d1 d2 d3 d4 d5 hfc hI hat
      generalize hop : op pc = o at *
      have hopH : Hid (op pc = o) := hop
      clear hop
      have hNn : wrap64 (n pc) = n pc := w64 (hN pc)
      have hme : ∀ s', step ar ⟨args.length, R, len, op, ds, a, b, n, to⟩ pn ⟨pc, dn, bt, met, regs⟩ = .inr s' → meas pn s' < meas pn ⟨pc, dn, bt, met, regs⟩ := fun s' h => (step_less h).1
      have hor : o = 1 ∨ o = 2 ∨ o = 3 ∨ o = 4 ∨ o = 5 ∨ o = 6 ∨ o = 7 ∨ o = 8 ∨ o = 9 := by omega
      rcases hor with rfl | rfl | rfl | rfl | rfl | rfl | rfl | rfl | rfl
      · as_aux_lemma =>
          by_cases hl1 : 16 * (1024 + (len : Int)) ≤ bt
          · go_wp2
            have hst : step ar ⟨args.length, R, len, op, ds, a, b, n, to⟩ pn ⟨pc, dn, bt, met, regs⟩ = .inl (4, 0, (met : Int)) := step_lim (F := ⟨args.length, R, len, op, ds, a, b, n, to⟩) (s := ⟨pc, dn, bt, met, regs⟩) (by show op pc ≠ 9; rw [hopH.out]; decide) (lim_true (by first | exact .inl (by simpa using hl1) | exact .inr (by simpa using hl2)))
            have hR : RES = (4, 0, (met : Int)) := hrun.out.symm.trans (runS_inl hst)
            refine bodyPost_ret_by (results_cell_row results8 _ _ (w.heap.size + 1) 34 _ (0, 0) _ rfl (fin_row (hIa).bX _ _ _) Tryz.underlying34 rfl size34) rfl ⟨?_, ((((hIa).below.setCell (by simp only; omega) _).setCell (by simp only; omega) _).setCell (by simp only; omega) _)⟩
            rw [hR]
          · by_cases hl2 : (4194304 : Int) ≤ dn
            · go_wp2
              have hst : step ar ⟨args.length, R, len, op, ds, a, b, n, to⟩ pn ⟨pc, dn, bt, met, regs⟩ = .inl (4, 0, (met : Int)) := step_lim (F := ⟨args.length, R, len, op, ds, a, b, n, to⟩) (s := ⟨pc, dn, bt, met, regs⟩) (by show op pc ≠ 9; rw [hopH.out]; decide) (lim_true (by first | exact .inl (by simpa using hl1) | exact .inr (by simpa using hl2)))
              have hR : RES = (4, 0, (met : Int)) := hrun.out.symm.trans (runS_inl hst)
              refine bodyPost_ret_by (results_cell_row results8 _ _ (w.heap.size + 1) 34 _ (0, 0) _ rfl (fin_row (hIa).bX _ _ _) Tryz.underlying34 rfl size34) rfl ⟨?_, ((((hIa).below.setCell (by simp only; omega) _).setCell (by simp only; omega) _).setCell (by simp only; omega) _)⟩
              rw [hR]
            · have hl3 : (bt : Int) < 16 * (1024 + (len : Int)) := by omega
              have hl4 : (dn : Int) < 4194304 := by omega
              have hds : 0 ≤ ds pc ∧ ds pc < R := by simp [fine, rdA, rdB, irx.wr, inR] at hfine; omega
              obtain ⟨hd0, hd1⟩ := hds
              have hgd := hIa.reg hregs hd0 hd1
              obtain ⟨hrad, hG2, junk, hjunk⟩ := hIa.bG (by omega)
              subst hrad
              have hzG : ∀ j, wa.frozen? ⟨G, j, none⟩ = false := fun j => by simp [World.frozen?, hjunk]
              have hpn1 := hnext (by decide) (by decide) (by decide)
              go_wp2
              have hst : step ar ⟨args.length, R, len, op, ds, a, b, n, to⟩ pn ⟨pc, dn, bt, met, regs⟩ = .inr ⟨pc + 1, dn + 1, bt + 1, met, setR ⟨pc, dn, bt, met, regs⟩ (ds pc) (n pc)⟩ := (step_body (F := ⟨args.length, R, len, op, ds, a, b, n, to⟩) (s := ⟨pc, dn, bt, met, regs⟩) (by show op pc ≠ 9; rw [hopH.out]; decide) (lim_false (F := ⟨args.length, R, len, op, ds, a, b, n, to⟩) (s := ⟨pc, dn, bt, met, regs⟩) (by simpa using hl1) (by simpa using hl2))).trans (by simp [body, go, hopH.out])
              go_roundg (meas pn ⟨pc + 1, dn + 1, bt + 1, met, setR ⟨pc, dn, bt, met, regs⟩ (ds pc) (n pc)⟩)
              case measure => exact hme _ hst
              case rel => exact ⟨⟨pc + 1, dn + 1, bt + 1, met, setR ⟨pc, dn, bt, met, regs⟩ (ds pc) (n pc)⟩, rfl, by go_num, by go_num, by go_num, by go_num, (hIa.setG (ds pc) (n pc) hregs hd0 hd1 (s' := ⟨pc + 1, dn + 1, bt + 1, met, setR ⟨pc, dn, bt, met, regs⟩ (ds pc) (n pc)⟩) rfl), ⟨hpn1, by simp only [setR, List.length_set]; exact hregs, by simp only; omega, by simp only; omega, by simp only; omega, rng_set hrng (hN pc) rfl⟩, (runS_inr hst).symm.trans hrun.out⟩
      · as_aux_lemma =>
          by_cases hl1 : 16 * (1024 + (len : Int)) ≤ bt
          · go_wp2
            have hst : step ar ⟨args.length, R, len, op, ds, a, b, n, to⟩ pn ⟨pc, dn, bt, met, regs⟩ = .inl (4, 0, (met : Int)) := step_lim (F := ⟨args.length, R, len, op, ds, a, b, n, to⟩) (s := ⟨pc, dn, bt, met, regs⟩) (by show op pc ≠ 9; rw [hopH.out]; decide) (lim_true (by first | exact .inl (by simpa using hl1) | exact .inr (by simpa using hl2)))
            have hR : RES = (4, 0, (met : Int)) := hrun.out.symm.trans (runS_inl hst)
            refine bodyPost_ret_by (results_cell_row results8 _ _ (w.heap.size + 1) 34 _ (0, 0) _ rfl (fin_row (hIa).bX _ _ _) Tryz.underlying34 rfl size34) rfl ⟨?_, ((((hIa).below.setCell (by simp only; omega) _).setCell (by simp only; omega) _).setCell (by simp only; omega) _)⟩
            rw [hR]
          · by_cases hl2 : (4194304 : Int) ≤ dn
            · go_wp2
              have hst : step ar ⟨args.length, R, len, op, ds, a, b, n, to⟩ pn ⟨pc, dn, bt, met, regs⟩ = .inl (4, 0, (met : Int)) := step_lim (F := ⟨args.length, R, len, op, ds, a, b, n, to⟩) (s := ⟨pc, dn, bt, met, regs⟩) (by show op pc ≠ 9; rw [hopH.out]; decide) (lim_true (by first | exact .inl (by simpa using hl1) | exact .inr (by simpa using hl2)))
              have hR : RES = (4, 0, (met : Int)) := hrun.out.symm.trans (runS_inl hst)
              refine bodyPost_ret_by (results_cell_row results8 _ _ (w.heap.size + 1) 34 _ (0, 0) _ rfl (fin_row (hIa).bX _ _ _) Tryz.underlying34 rfl size34) rfl ⟨?_, ((((hIa).below.setCell (by simp only; omega) _).setCell (by simp only; omega) _).setCell (by simp only; omega) _)⟩
              rw [hR]
            · have hl3 : (bt : Int) < 16 * (1024 + (len : Int)) := by omega
              have hl4 : (dn : Int) < 4194304 := by omega
              have hds : 0 ≤ ds pc ∧ ds pc < R := by simp [fine, rdA, rdB, irx.wr, inR] at hfine; omega
              obtain ⟨hd0, hd1⟩ := hds
              have hgd := hIa.reg hregs hd0 hd1
              have hra : 0 ≤ a pc ∧ a pc < R := by simp [fine, rdA, rdB, irx.wr, inR] at hfine; omega
              obtain ⟨ha0, ha1⟩ := hra
              have hga := hIa.reg hregs ha0 ha1
              have hqa := hrng (a pc)
              obtain ⟨hrad, hG2, junk, hjunk⟩ := hIa.bG (by omega)
              subst hrad
              have hzG : ∀ j, wa.frozen? ⟨G, j, none⟩ = false := fun j => by simp [World.frozen?, hjunk]
              have hpn1 := hnext (by decide) (by decide) (by decide)
              go_wp2
              go_region
              all_goals (try go_wp2)
              have hst : step ar ⟨args.length, R, len, op, ds, a, b, n, to⟩ pn ⟨pc, dn, bt, met, regs⟩ = .inr ⟨pc + 1, dn + 1, bt + 1, met, setR ⟨pc, dn, bt, met, regs⟩ (ds pc) (rg ⟨pc, dn, bt, met, regs⟩ (a pc))⟩ := (step_body (F := ⟨args.length, R, len, op, ds, a, b, n, to⟩) (s := ⟨pc, dn, bt, met, regs⟩) (by show op pc ≠ 9; rw [hopH.out]; decide) (lim_false (F := ⟨args.length, R, len, op, ds, a, b, n, to⟩) (s := ⟨pc, dn, bt, met, regs⟩) (by simpa using hl1) (by simpa using hl2))).trans (by simp [body, go, hopH.out])
              go_roundg (meas pn ⟨pc + 1, dn + 1, bt + 1, met, setR ⟨pc, dn, bt, met, regs⟩ (ds pc) (rg ⟨pc, dn, bt, met, regs⟩ (a pc))⟩)
              case measure => exact hme _ hst
              case rel => exact ⟨⟨pc + 1, dn + 1, bt + 1, met, setR ⟨pc, dn, bt, met, regs⟩ (ds pc) (rg ⟨pc, dn, bt, met, regs⟩ (a pc))⟩, rfl, by go_num, by go_num, by go_num, by go_num, (Inv8.drew (s := ⟨pc + 1, dn + 1, bt + 1, met, setR ⟨pc, dn, bt, met, regs⟩ (ds pc) (rg ⟨pc, dn, bt, met, regs⟩ (a pc))⟩) (hIa.setG (ds pc) (rg ⟨pc, dn, bt, met, regs⟩ (a pc)) hregs hd0 hd1 (s' := ⟨pc + 1, dn + 1, bt + 1, met, setR ⟨pc, dn, bt, met, regs⟩ (ds pc) (rg ⟨pc, dn, bt, met, regs⟩ (a pc))⟩) rfl)), ⟨hpn1, by simp only [setR, List.length_set]; exact hregs, by simp only; omega, by simp only; omega, by simp only; omega, rng_set hrng hqa rfl⟩, (runS_inr hst).symm.trans hrun.out⟩
      · as_aux_lemma =>
          by_cases hl1 : 16 * (1024 + (len : Int)) ≤ bt
          · go_wp2
            have hst : step ar ⟨args.length, R, len, op, ds, a, b, n, to⟩ pn ⟨pc, dn, bt, met, regs⟩ = .inl (4, 0, (met : Int)) := step_lim (F := ⟨args.length, R, len, op, ds, a, b, n, to⟩) (s := ⟨pc, dn, bt, met, regs⟩) (by show op pc ≠ 9; rw [hopH.out]; decide) (lim_true (by first | exact .inl (by simpa using hl1) | exact .inr (by simpa using hl2)))
            have hR : RES = (4, 0, (met : Int)) := hrun.out.symm.trans (runS_inl hst)
            refine bodyPost_ret_by (results_cell_row results8 _ _ (w.heap.size + 1) 34 _ (0, 0) _ rfl (fin_row (hIa).bX _ _ _) Tryz.underlying34 rfl size34) rfl ⟨?_, ((((hIa).below.setCell (by simp only; omega) _).setCell (by simp only; omega) _).setCell (by simp only; omega) _)⟩
            rw [hR]
          · by_cases hl2 : (4194304 : Int) ≤ dn
            · go_wp2
              have hst : step ar ⟨args.length, R, len, op, ds, a, b, n, to⟩ pn ⟨pc, dn, bt, met, regs⟩ = .inl (4, 0, (met : Int)) := step_lim (F := ⟨args.length, R, len, op, ds, a, b, n, to⟩) (s := ⟨pc, dn, bt, met, regs⟩) (by show op pc ≠ 9; rw [hopH.out]; decide) (lim_true (by first | exact .inl (by simpa using hl1) | exact .inr (by simpa using hl2)))
              have hR : RES = (4, 0, (met : Int)) := hrun.out.symm.trans (runS_inl hst)
              refine bodyPost_ret_by (results_cell_row results8 _ _ (w.heap.size + 1) 34 _ (0, 0) _ rfl (fin_row (hIa).bX _ _ _) Tryz.underlying34 rfl size34) rfl ⟨?_, ((((hIa).below.setCell (by simp only; omega) _).setCell (by simp only; omega) _).setCell (by simp only; omega) _)⟩
              rw [hR]
            · have hl3 : (bt : Int) < 16 * (1024 + (len : Int)) := by omega
              have hl4 : (dn : Int) < 4194304 := by omega
              have hds : 0 ≤ ds pc ∧ ds pc < R := by simp [fine, rdA, rdB, irx.wr, inR] at hfine; omega
              obtain ⟨hd0, hd1⟩ := hds
              have hgd := hIa.reg hregs hd0 hd1
              have hra : 0 ≤ a pc ∧ a pc < R := by simp [fine, rdA, rdB, irx.wr, inR] at hfine; omega
              obtain ⟨ha0, ha1⟩ := hra
              have hga := hIa.reg hregs ha0 ha1
              have hqa := hrng (a pc)
              have hrb : 0 ≤ b pc ∧ b pc < R := by simp [fine, rdA, rdB, irx.wr, inR] at hfine; omega
              obtain ⟨hb0, hb1⟩ := hrb
              have hgb := hIa.reg hregs hb0 hb1
              have hqb := hrng (b pc)
              obtain ⟨hrad, hG2, junk, hjunk⟩ := hIa.bG (by omega)
              subst hrad
              have hzG : ∀ j, wa.frozen? ⟨G, j, none⟩ = false := fun j => by simp [World.frozen?, hjunk]
              have hpn1 := hnext (by decide) (by decide) (by decide)
              by_cases he : (two (n pc) (rg ⟨pc, dn, bt, met, regs⟩ (a pc)) (rg ⟨pc, dn, bt, met, regs⟩ (b pc))).2 = 0
              · go_wp2_with fail
                go_quiet (first | (go_at_call 17; refine Calls.quiet_of_same (two17 _ _ _ hqa hqb _)))
                go_wp2
                have hst : step ar ⟨args.length, R, len, op, ds, a, b, n, to⟩ pn ⟨pc, dn, bt, met, regs⟩ = .inr ⟨pc + 1, dn + 1, bt + 1, met, setR ⟨pc, dn, bt, met, regs⟩ (ds pc) ((two (n pc) (rg ⟨pc, dn, bt, met, regs⟩ (a pc)) (rg ⟨pc, dn, bt, met, regs⟩ (b pc))).1)⟩ := (step_body (F := ⟨args.length, R, len, op, ds, a, b, n, to⟩) (s := ⟨pc, dn, bt, met, regs⟩) (by show op pc ≠ 9; rw [hopH.out]; decide) (lim_false (F := ⟨args.length, R, len, op, ds, a, b, n, to⟩) (s := ⟨pc, dn, bt, met, regs⟩) (by simpa using hl1) (by simpa using hl2))).trans (by simp [body, go, hopH.out, ar, he])
                go_roundg (meas pn ⟨pc + 1, dn + 1, bt + 1, met, setR ⟨pc, dn, bt, met, regs⟩ (ds pc) ((two (n pc) (rg ⟨pc, dn, bt, met, regs⟩ (a pc)) (rg ⟨pc, dn, bt, met, regs⟩ (b pc))).1)⟩)
                case measure => exact hme _ hst
                case rel => exact ⟨⟨pc + 1, dn + 1, bt + 1, met, setR ⟨pc, dn, bt, met, regs⟩ (ds pc) ((two (n pc) (rg ⟨pc, dn, bt, met, regs⟩ (a pc)) (rg ⟨pc, dn, bt, met, regs⟩ (b pc))).1)⟩, rfl, by go_num, by go_num, by go_num, by go_num, (by first | exact Inv8.drewN (s := ⟨pc + 1, dn + 1, bt + 1, met, setR ⟨pc, dn, bt, met, regs⟩ (ds pc) ((two (n pc) (rg ⟨pc, dn, bt, met, regs⟩ (a pc)) (rg ⟨pc, dn, bt, met, regs⟩ (b pc))).1)⟩) (hIa.setG (ds pc) ((two (n pc) (rg ⟨pc, dn, bt, met, regs⟩ (a pc)) (rg ⟨pc, dn, bt, met, regs⟩ (b pc))).1) hregs hd0 hd1 (s' := ⟨pc + 1, dn + 1, bt + 1, met, setR ⟨pc, dn, bt, met, regs⟩ (ds pc) ((two (n pc) (rg ⟨pc, dn, bt, met, regs⟩ (a pc)) (rg ⟨pc, dn, bt, met, regs⟩ (b pc))).1)⟩) rfl) _ | exact (hIa.drewN _).setG (ds pc) ((two (n pc) (rg ⟨pc, dn, bt, met, regs⟩ (a pc)) (rg ⟨pc, dn, bt, met, regs⟩ (b pc))).1) hregs hd0 hd1 (s' := ⟨pc + 1, dn + 1, bt + 1, met, setR ⟨pc, dn, bt, met, regs⟩ (ds pc) ((two (n pc) (rg ⟨pc, dn, bt, met, regs⟩ (a pc)) (rg ⟨pc, dn, bt, met, regs⟩ (b pc))).1)⟩) rfl), ⟨hpn1, by simp only [setR, List.length_set]; exact hregs, by simp only; omega, by simp only; omega, by simp only; omega, rng_set hrng (two_rng _ _ _ hqa) rfl⟩, (runS_inr hst).symm.trans hrun.out⟩
              · go_wp2_with fail
                go_quiet (first | (go_at_call 17; refine Calls.quiet_of_same (two17 _ _ _ hqa hqb _)))
                generalize htv : two (n pc) (rg ⟨pc, dn, bt, met, regs⟩ (a pc)) (rg ⟨pc, dn, bt, met, regs⟩ (b pc)) = tv at he ⊢
                have htvH : Hid (two (n pc) (rg ⟨pc, dn, bt, met, regs⟩ (a pc)) (rg ⟨pc, dn, bt, met, regs⟩ (b pc)) = tv) := htv
                obtain ⟨tv1, tv2⟩ := tv
                clear htv
                have hne : (tv2 != 0) = true := by simpa using he
                have heH : Hid (tv2 ≠ 0) := he
                clear he
                go_wp2
                have hst : step ar ⟨args.length, R, len, op, ds, a, b, n, to⟩ pn ⟨pc, dn, bt, met, regs⟩ = .inl (2, 0, (met : Int)) := (step_body (F := ⟨args.length, R, len, op, ds, a, b, n, to⟩) (s := ⟨pc, dn, bt, met, regs⟩) (by show op pc ≠ 9; rw [hopH.out]; decide) (lim_false (F := ⟨args.length, R, len, op, ds, a, b, n, to⟩) (s := ⟨pc, dn, bt, met, regs⟩) (by simpa using hl1) (by simpa using hl2))).trans (by simp [body, go, hopH.out, ar, htvH.out, heH.out])
                have hR : RES = (2, 0, (met : Int)) := hrun.out.symm.trans (runS_inl hst)
                refine bodyPost_ret_by (results_cell_row results8 _ _ (w.heap.size + 1) 34 _ (0, 0) _ rfl (fin_row (hIa.drewN _).bX _ _ _) Tryz.underlying34 rfl size34) rfl ⟨?_, ((((hIa.drewN _).below.setCell (by simp only; omega) _).setCell (by simp only; omega) _).setCell (by simp only; omega) _)⟩
                rw [hR]
      · as_aux_lemma =>
          by_cases hl1 : 16 * (1024 + (len : Int)) ≤ bt
          · go_wp2
            have hst : step ar ⟨args.length, R, len, op, ds, a, b, n, to⟩ pn ⟨pc, dn, bt, met, regs⟩ = .inl (4, 0, (met : Int)) := step_lim (F := ⟨args.length, R, len, op, ds, a, b, n, to⟩) (s := ⟨pc, dn, bt, met, regs⟩) (by show op pc ≠ 9; rw [hopH.out]; decide) (lim_true (by first | exact .inl (by simpa using hl1) | exact .inr (by simpa using hl2)))
            have hR : RES = (4, 0, (met : Int)) := hrun.out.symm.trans (runS_inl hst)
            refine bodyPost_ret_by (results_cell_row results8 _ _ (w.heap.size + 1) 34 _ (0, 0) _ rfl (fin_row (hIa).bX _ _ _) Tryz.underlying34 rfl size34) rfl ⟨?_, ((((hIa).below.setCell (by simp only; omega) _).setCell (by simp only; omega) _).setCell (by simp only; omega) _)⟩
            rw [hR]
          · by_cases hl2 : (4194304 : Int) ≤ dn
            · go_wp2
              have hst : step ar ⟨args.length, R, len, op, ds, a, b, n, to⟩ pn ⟨pc, dn, bt, met, regs⟩ = .inl (4, 0, (met : Int)) := step_lim (F := ⟨args.length, R, len, op, ds, a, b, n, to⟩) (s := ⟨pc, dn, bt, met, regs⟩) (by show op pc ≠ 9; rw [hopH.out]; decide) (lim_true (by first | exact .inl (by simpa using hl1) | exact .inr (by simpa using hl2)))
              have hR : RES = (4, 0, (met : Int)) := hrun.out.symm.trans (runS_inl hst)
              refine bodyPost_ret_by (results_cell_row results8 _ _ (w.heap.size + 1) 34 _ (0, 0) _ rfl (fin_row (hIa).bX _ _ _) Tryz.underlying34 rfl size34) rfl ⟨?_, ((((hIa).below.setCell (by simp only; omega) _).setCell (by simp only; omega) _).setCell (by simp only; omega) _)⟩
              rw [hR]
            · have hl3 : (bt : Int) < 16 * (1024 + (len : Int)) := by omega
              have hl4 : (dn : Int) < 4194304 := by omega
              have hds : 0 ≤ ds pc ∧ ds pc < R := by simp [fine, rdA, rdB, irx.wr, inR] at hfine; omega
              obtain ⟨hd0, hd1⟩ := hds
              have hgd := hIa.reg hregs hd0 hd1
              have hra : 0 ≤ a pc ∧ a pc < R := by simp [fine, rdA, rdB, irx.wr, inR] at hfine; omega
              obtain ⟨ha0, ha1⟩ := hra
              have hga := hIa.reg hregs ha0 ha1
              have hqa := hrng (a pc)
              obtain ⟨hrad, hG2, junk, hjunk⟩ := hIa.bG (by omega)
              subst hrad
              have hzG : ∀ j, wa.frozen? ⟨G, j, none⟩ = false := fun j => by simp [World.frozen?, hjunk]
              have hpn1 := hnext (by decide) (by decide) (by decide)
              have hNw : IntKind.i64.wrap (n pc) = n pc := by rw [IntKind.wrap_i64]; have := hN pc; unfold I32 at this; omega
              go_wp2_with fail
              go_region_law (first | (go_simp; go_at_call 18; refine (one18 _ _ hqa _).mono ?_; rintro e w5 ⟨rfl, rfl⟩))
              all_goals (try go_wp2)
              all_goals (try rw [hNn])
              all_goals (try rw [hNw])
              all_goals
                (have hst : step ar ⟨args.length, R, len, op, ds, a, b, n, to⟩ pn ⟨pc, dn, bt, met, regs⟩ = .inr ⟨pc + 1, dn + 1, bt + 1, met, setR ⟨pc, dn, bt, met, regs⟩ (ds pc) ((one (n pc) (rg ⟨pc, dn, bt, met, regs⟩ (a pc))).1)⟩ := (step_body (F := ⟨args.length, R, len, op, ds, a, b, n, to⟩) (s := ⟨pc, dn, bt, met, regs⟩) (by show op pc ≠ 9; rw [hopH.out]; decide) (lim_false (F := ⟨args.length, R, len, op, ds, a, b, n, to⟩) (s := ⟨pc, dn, bt, met, regs⟩) (by simpa using hl1) (by simpa using hl2))).trans (by simp [body, go, hopH.out, ar])
                 go_roundg (meas pn ⟨pc + 1, dn + 1, bt + 1, met, setR ⟨pc, dn, bt, met, regs⟩ (ds pc) ((one (n pc) (rg ⟨pc, dn, bt, met, regs⟩ (a pc))).1)⟩)
                 case measure => exact hme _ hst
                 case rel => exact ⟨⟨pc + 1, dn + 1, bt + 1, met, setR ⟨pc, dn, bt, met, regs⟩ (ds pc) ((one (n pc) (rg ⟨pc, dn, bt, met, regs⟩ (a pc))).1)⟩, rfl, by go_num, by go_num, by go_num, by go_num, (Inv8.drew (s := ⟨pc + 1, dn + 1, bt + 1, met, setR ⟨pc, dn, bt, met, regs⟩ (ds pc) ((one (n pc) (rg ⟨pc, dn, bt, met, regs⟩ (a pc))).1)⟩) (hIa.setG (ds pc) ((one (n pc) (rg ⟨pc, dn, bt, met, regs⟩ (a pc))).1) hregs hd0 hd1 (s' := ⟨pc + 1, dn + 1, bt + 1, met, setR ⟨pc, dn, bt, met, regs⟩ (ds pc) ((one (n pc) (rg ⟨pc, dn, bt, met, regs⟩ (a pc))).1)⟩) rfl)), ⟨hpn1, by simp only [setR, List.length_set]; exact hregs, by simp only; omega, by simp only; omega, by simp only; omega, rng_set hrng (one_rng _ _) rfl⟩, (runS_inr hst).symm.trans hrun.out⟩)
      · as_aux_lemma =>
          by_cases hl1 : 16 * (1024 + (len : Int)) ≤ bt
          · go_wp2
            have hst : step ar ⟨args.length, R, len, op, ds, a, b, n, to⟩ pn ⟨pc, dn, bt, met, regs⟩ = .inl (4, 0, (met : Int)) := step_lim (F := ⟨args.length, R, len, op, ds, a, b, n, to⟩) (s := ⟨pc, dn, bt, met, regs⟩) (by show op pc ≠ 9; rw [hopH.out]; decide) (lim_true (by first | exact .inl (by simpa using hl1) | exact .inr (by simpa using hl2)))
            have hR : RES = (4, 0, (met : Int)) := hrun.out.symm.trans (runS_inl hst)
            refine bodyPost_ret_by (results_cell_row results8 _ _ (w.heap.size + 1) 34 _ (0, 0) _ rfl (fin_row (hIa).bX _ _ _) Tryz.underlying34 rfl size34) rfl ⟨?_, ((((hIa).below.setCell (by simp only; omega) _).setCell (by simp only; omega) _).setCell (by simp only; omega) _)⟩
            rw [hR]
          · by_cases hl2 : (4194304 : Int) ≤ dn
            · go_wp2
              have hst : step ar ⟨args.length, R, len, op, ds, a, b, n, to⟩ pn ⟨pc, dn, bt, met, regs⟩ = .inl (4, 0, (met : Int)) := step_lim (F := ⟨args.length, R, len, op, ds, a, b, n, to⟩) (s := ⟨pc, dn, bt, met, regs⟩) (by show op pc ≠ 9; rw [hopH.out]; decide) (lim_true (by first | exact .inl (by simpa using hl1) | exact .inr (by simpa using hl2)))
              have hR : RES = (4, 0, (met : Int)) := hrun.out.symm.trans (runS_inl hst)
              refine bodyPost_ret_by (results_cell_row results8 _ _ (w.heap.size + 1) 34 _ (0, 0) _ rfl (fin_row (hIa).bX _ _ _) Tryz.underlying34 rfl size34) rfl ⟨?_, ((((hIa).below.setCell (by simp only; omega) _).setCell (by simp only; omega) _).setCell (by simp only; omega) _)⟩
              rw [hR]
            · have hl3 : (bt : Int) < 16 * (1024 + (len : Int)) := by omega
              have hl4 : (dn : Int) < 4194304 := by omega
              have hto : 0 ≤ to pc ∧ to pc < len := by simp [fine, rdA, rdB, irx.wr, inR] at hfine; omega
              go_wp2
              have htn : ((to pc).toNat : Int) = to pc := by omega
              have hst : step ar ⟨args.length, R, len, op, ds, a, b, n, to⟩ pn ⟨pc, dn, bt, met, regs⟩ = .inr ⟨(to pc).toNat, dn + 1, bt + 1, met, regs⟩ := (step_body (F := ⟨args.length, R, len, op, ds, a, b, n, to⟩) (s := ⟨pc, dn, bt, met, regs⟩) (by show op pc ≠ 9; rw [hopH.out]; decide) (lim_false (F := ⟨args.length, R, len, op, ds, a, b, n, to⟩) (s := ⟨pc, dn, bt, met, regs⟩) (by simpa using hl1) (by simpa using hl2))).trans (by simp [body, go, hopH.out])
              go_roundg (meas pn ⟨(to pc).toNat, dn + 1, bt + 1, met, regs⟩)
              case measure => exact hme _ hst
              case rel => exact ⟨⟨(to pc).toNat, dn + 1, bt + 1, met, regs⟩, rfl, by go_num, by go_num, by go_num, by rw [htn], hIa.state rfl, ⟨by simp only; omega, hregs, by simp only; omega, by simp only; omega, by simp only; omega, hrng⟩, (runS_inr hst).symm.trans hrun.out⟩
      · as_aux_lemma =>
          by_cases hl1 : 16 * (1024 + (len : Int)) ≤ bt
          · go_wp2
            have hst : step ar ⟨args.length, R, len, op, ds, a, b, n, to⟩ pn ⟨pc, dn, bt, met, regs⟩ = .inl (4, 0, (met : Int)) := step_lim (F := ⟨args.length, R, len, op, ds, a, b, n, to⟩) (s := ⟨pc, dn, bt, met, regs⟩) (by show op pc ≠ 9; rw [hopH.out]; decide) (lim_true (by first | exact .inl (by simpa using hl1) | exact .inr (by simpa using hl2)))
            have hR : RES = (4, 0, (met : Int)) := hrun.out.symm.trans (runS_inl hst)
            refine bodyPost_ret_by (results_cell_row results8 _ _ (w.heap.size + 1) 34 _ (0, 0) _ rfl (fin_row (hIa).bX _ _ _) Tryz.underlying34 rfl size34) rfl ⟨?_, ((((hIa).below.setCell (by simp only; omega) _).setCell (by simp only; omega) _).setCell (by simp only; omega) _)⟩
            rw [hR]
          · by_cases hl2 : (4194304 : Int) ≤ dn
            · go_wp2
              have hst : step ar ⟨args.length, R, len, op, ds, a, b, n, to⟩ pn ⟨pc, dn, bt, met, regs⟩ = .inl (4, 0, (met : Int)) := step_lim (F := ⟨args.length, R, len, op, ds, a, b, n, to⟩) (s := ⟨pc, dn, bt, met, regs⟩) (by show op pc ≠ 9; rw [hopH.out]; decide) (lim_true (by first | exact .inl (by simpa using hl1) | exact .inr (by simpa using hl2)))
              have hR : RES = (4, 0, (met : Int)) := hrun.out.symm.trans (runS_inl hst)
              refine bodyPost_ret_by (results_cell_row results8 _ _ (w.heap.size + 1) 34 _ (0, 0) _ rfl (fin_row (hIa).bX _ _ _) Tryz.underlying34 rfl size34) rfl ⟨?_, ((((hIa).below.setCell (by simp only; omega) _).setCell (by simp only; omega) _).setCell (by simp only; omega) _)⟩
              rw [hR]
            · have hl3 : (bt : Int) < 16 * (1024 + (len : Int)) := by omega
              have hl4 : (dn : Int) < 4194304 := by omega
              have hra : 0 ≤ a pc ∧ a pc < R := by simp [fine, rdA, rdB, irx.wr, inR] at hfine; omega
              obtain ⟨ha0, ha1⟩ := hra
              have hga := hIa.reg hregs ha0 ha1
              have hqa := hrng (a pc)
              obtain ⟨hrad, hG2, junk, hjunk⟩ := hIa.bG (by omega)
              subst hrad
              have hzG : ∀ j, wa.frozen? ⟨G, j, none⟩ = false := fun j => by simp [World.frozen?, hjunk]
              have hpn1 := hnext (by decide) (by decide) (by decide)
              have hto : 0 ≤ to pc ∧ to pc < len := by simp [fine, rdA, rdB, irx.wr, inR] at hfine; omega
              have hsec := second_why (hWYH.out pc hpc hopH.out)
              cases hb6 : rdB 6 (n pc)
              · rw [hb6] at hsec
                cases ht : (test (n pc) (rg ⟨pc, dn, bt, met, regs⟩ (a pc)) 0).1
                · go_wp2_with (go_at_call 19; refine (second19 _ _).mono ?_; rintro e w5 ⟨rfl, rfl⟩)
                  go_quiet (first | (go_at_call 20; refine Calls.quiet_of_same (test20 _ _ _ _)))
                  go_wp2
                  have hst : step ar ⟨args.length, R, len, op, ds, a, b, n, to⟩ pn ⟨pc, dn, bt, met, regs⟩ = .inr ⟨pc + 1, dn + 1, bt + 1, met, regs⟩ := (step_body (F := ⟨args.length, R, len, op, ds, a, b, n, to⟩) (s := ⟨pc, dn, bt, met, regs⟩) (by show op pc ≠ 9; rw [hopH.out]; decide) (lim_false (F := ⟨args.length, R, len, op, ds, a, b, n, to⟩) (s := ⟨pc, dn, bt, met, regs⟩) (by simpa using hl1) (by simpa using hl2))).trans (by simp [body, go, hopH.out, ar, hb6, ht])
                  go_roundg (meas pn ⟨pc + 1, dn + 1, bt + 1, met, regs⟩)
                  case measure => exact hme _ hst
                  case rel => exact ⟨⟨pc + 1, dn + 1, bt + 1, met, regs⟩, rfl, by go_num, by go_num, by go_num, by go_num, (Inv8.state (hIa.drewN _) rfl), ⟨by simp only; omega, hregs, by simp only; omega, by simp only; omega, by simp only; omega, hrng⟩, (runS_inr hst).symm.trans hrun.out⟩
                · have htn : ((to pc).toNat : Int) = to pc := by omega
                  go_wp2_with (go_at_call 19; refine (second19 _ _).mono ?_; rintro e w5 ⟨rfl, rfl⟩)
                  go_quiet (first | (go_at_call 20; refine Calls.quiet_of_same (test20 _ _ _ _)))
                  go_wp2
                  have hst : step ar ⟨args.length, R, len, op, ds, a, b, n, to⟩ pn ⟨pc, dn, bt, met, regs⟩ = .inr ⟨(to pc).toNat, dn + 1, bt + 1, met, regs⟩ := (step_body (F := ⟨args.length, R, len, op, ds, a, b, n, to⟩) (s := ⟨pc, dn, bt, met, regs⟩) (by show op pc ≠ 9; rw [hopH.out]; decide) (lim_false (F := ⟨args.length, R, len, op, ds, a, b, n, to⟩) (s := ⟨pc, dn, bt, met, regs⟩) (by simpa using hl1) (by simpa using hl2))).trans (by simp [body, go, hopH.out, ar, hb6, ht])
                  go_roundg (meas pn ⟨(to pc).toNat, dn + 1, bt + 1, met, regs⟩)
                  case measure => exact hme _ hst
                  case rel => exact ⟨⟨(to pc).toNat, dn + 1, bt + 1, met, regs⟩, rfl, by go_num, by go_num, by go_num, by rw [htn], (Inv8.state (hIa.drewN _) rfl), ⟨by simp only; omega, hregs, by simp only; omega, by simp only; omega, by simp only; omega, hrng⟩, (runS_inr hst).symm.trans hrun.out⟩
              · rw [hb6] at hsec
                have hrb : 0 ≤ b pc ∧ b pc < R := by simp [fine, rdA, hb6, irx.wr, inR] at hfine; omega
                obtain ⟨hb0, hb1⟩ := hrb
                have hgb := hIa.reg hregs hb0 hb1
                cases ht : (test (n pc) (rg ⟨pc, dn, bt, met, regs⟩ (a pc)) (rg ⟨pc, dn, bt, met, regs⟩ (b pc))).1
                · go_wp2_with (go_at_call 19; refine (second19 _ _).mono ?_; rintro e w5 ⟨rfl, rfl⟩)
                  go_quiet (first | (go_at_call 20; refine Calls.quiet_of_same (test20 _ _ _ _)))
                  go_wp2
                  have hst : step ar ⟨args.length, R, len, op, ds, a, b, n, to⟩ pn ⟨pc, dn, bt, met, regs⟩ = .inr ⟨pc + 1, dn + 1, bt + 1, met, regs⟩ := (step_body (F := ⟨args.length, R, len, op, ds, a, b, n, to⟩) (s := ⟨pc, dn, bt, met, regs⟩) (by show op pc ≠ 9; rw [hopH.out]; decide) (lim_false (F := ⟨args.length, R, len, op, ds, a, b, n, to⟩) (s := ⟨pc, dn, bt, met, regs⟩) (by simpa using hl1) (by simpa using hl2))).trans (by simp [body, go, hopH.out, ar, hb6, ht])
                  go_roundg (meas pn ⟨pc + 1, dn + 1, bt + 1, met, regs⟩)
                  case measure => exact hme _ hst
                  case rel => exact ⟨⟨pc + 1, dn + 1, bt + 1, met, regs⟩, rfl, by go_num, by go_num, by go_num, by go_num, (Inv8.state (hIa.drewN _) rfl), ⟨by simp only; omega, hregs, by simp only; omega, by simp only; omega, by simp only; omega, hrng⟩, (runS_inr hst).symm.trans hrun.out⟩
                · have htn : ((to pc).toNat : Int) = to pc := by omega
                  go_wp2_with (go_at_call 19; refine (second19 _ _).mono ?_; rintro e w5 ⟨rfl, rfl⟩)
                  go_quiet (first | (go_at_call 20; refine Calls.quiet_of_same (test20 _ _ _ _)))
                  go_wp2
                  have hst : step ar ⟨args.length, R, len, op, ds, a, b, n, to⟩ pn ⟨pc, dn, bt, met, regs⟩ = .inr ⟨(to pc).toNat, dn + 1, bt + 1, met, regs⟩ := (step_body (F := ⟨args.length, R, len, op, ds, a, b, n, to⟩) (s := ⟨pc, dn, bt, met, regs⟩) (by show op pc ≠ 9; rw [hopH.out]; decide) (lim_false (F := ⟨args.length, R, len, op, ds, a, b, n, to⟩) (s := ⟨pc, dn, bt, met, regs⟩) (by simpa using hl1) (by simpa using hl2))).trans (by simp [body, go, hopH.out, ar, hb6, ht])
                  go_roundg (meas pn ⟨(to pc).toNat, dn + 1, bt + 1, met, regs⟩)
                  case measure => exact hme _ hst
                  case rel => exact ⟨⟨(to pc).toNat, dn + 1, bt + 1, met, regs⟩, rfl, by go_num, by go_num, by go_num, by rw [htn], (Inv8.state (hIa.drewN _) rfl), ⟨by simp only; omega, hregs, by simp only; omega, by simp only; omega, by simp only; omega, hrng⟩, (runS_inr hst).symm.trans hrun.out⟩
      · as_aux_lemma =>
          by_cases hl1 : 16 * (1024 + (len : Int)) ≤ bt
          · go_wp2
            have hst : step ar ⟨args.length, R, len, op, ds, a, b, n, to⟩ pn ⟨pc, dn, bt, met, regs⟩ = .inl (4, 0, (met : Int)) := step_lim (F := ⟨args.length, R, len, op, ds, a, b, n, to⟩) (s := ⟨pc, dn, bt, met, regs⟩) (by show op pc ≠ 9; rw [hopH.out]; decide) (lim_true (by first | exact .inl (by simpa using hl1) | exact .inr (by simpa using hl2)))
            have hR : RES = (4, 0, (met : Int)) := hrun.out.symm.trans (runS_inl hst)
            refine bodyPost_ret_by (results_cell_row results8 _ _ (w.heap.size + 1) 34 _ (0, 0) _ rfl (fin_row (hIa).bX _ _ _) Tryz.underlying34 rfl size34) rfl ⟨?_, ((((hIa).below.setCell (by simp only; omega) _).setCell (by simp only; omega) _).setCell (by simp only; omega) _)⟩
            rw [hR]
          · by_cases hl2 : (4194304 : Int) ≤ dn
            · go_wp2
              have hst : step ar ⟨args.length, R, len, op, ds, a, b, n, to⟩ pn ⟨pc, dn, bt, met, regs⟩ = .inl (4, 0, (met : Int)) := step_lim (F := ⟨args.length, R, len, op, ds, a, b, n, to⟩) (s := ⟨pc, dn, bt, met, regs⟩) (by show op pc ≠ 9; rw [hopH.out]; decide) (lim_true (by first | exact .inl (by simpa using hl1) | exact .inr (by simpa using hl2)))
              have hR : RES = (4, 0, (met : Int)) := hrun.out.symm.trans (runS_inl hst)
              refine bodyPost_ret_by (results_cell_row results8 _ _ (w.heap.size + 1) 34 _ (0, 0) _ rfl (fin_row (hIa).bX _ _ _) Tryz.underlying34 rfl size34) rfl ⟨?_, ((((hIa).below.setCell (by simp only; omega) _).setCell (by simp only; omega) _).setCell (by simp only; omega) _)⟩
              rw [hR]
            · have hl3 : (bt : Int) < 16 * (1024 + (len : Int)) := by omega
              have hl4 : (dn : Int) < 4194304 := by omega
              have hra : 0 ≤ a pc ∧ a pc < R := by simp [fine, rdA, rdB, irx.wr, inR] at hfine; omega
              obtain ⟨ha0, ha1⟩ := hra
              have hga := hIa.reg hregs ha0 ha1
              have hqa := hrng (a pc)
              obtain ⟨hrad, hG2, junk, hjunk⟩ := hIa.bG (by omega)
              subst hrad
              have hzG : ∀ j, wa.frozen? ⟨G, j, none⟩ = false := fun j => by simp [World.frozen?, hjunk]
              go_wp2
              have hst : step ar ⟨args.length, R, len, op, ds, a, b, n, to⟩ pn ⟨pc, dn, bt, met, regs⟩ = .inl (1, rg ⟨pc, dn, bt, met, regs⟩ (a pc), (met : Int)) := (step_body (F := ⟨args.length, R, len, op, ds, a, b, n, to⟩) (s := ⟨pc, dn, bt, met, regs⟩) (by show op pc ≠ 9; rw [hopH.out]; decide) (lim_false (F := ⟨args.length, R, len, op, ds, a, b, n, to⟩) (s := ⟨pc, dn, bt, met, regs⟩) (by simpa using hl1) (by simpa using hl2))).trans (by simp [body, go, hopH.out])
              have hR : RES = (1, rg ⟨pc, dn, bt, met, regs⟩ (a pc), (met : Int)) := hrun.out.symm.trans (runS_inl hst)
              refine bodyPost_ret_by (results_cell_row results8 _ _ (w.heap.size + 1) 34 _ (0, 0) _ rfl (fin_row (hIa).bX _ _ _) Tryz.underlying34 rfl size34) rfl ⟨?_, ((((hIa).below.setCell (by simp only; omega) _).setCell (by simp only; omega) _).setCell (by simp only; omega) _)⟩
              rw [hR]
      · as_aux_lemma =>
          by_cases hl1 : 16 * (1024 + (len : Int)) ≤ bt
          · go_wp2
            have hst : step ar ⟨args.length, R, len, op, ds, a, b, n, to⟩ pn ⟨pc, dn, bt, met, regs⟩ = .inl (4, 0, (met : Int)) := step_lim (F := ⟨args.length, R, len, op, ds, a, b, n, to⟩) (s := ⟨pc, dn, bt, met, regs⟩) (by show op pc ≠ 9; rw [hopH.out]; decide) (lim_true (by first | exact .inl (by simpa using hl1) | exact .inr (by simpa using hl2)))
            have hR : RES = (4, 0, (met : Int)) := hrun.out.symm.trans (runS_inl hst)
            refine bodyPost_ret_by (results_cell_row results8 _ _ (w.heap.size + 1) 34 _ (0, 0) _ rfl (fin_row (hIa).bX _ _ _) Tryz.underlying34 rfl size34) rfl ⟨?_, ((((hIa).below.setCell (by simp only; omega) _).setCell (by simp only; omega) _).setCell (by simp only; omega) _)⟩
            rw [hR]
          · by_cases hl2 : (4194304 : Int) ≤ dn
            · go_wp2
              have hst : step ar ⟨args.length, R, len, op, ds, a, b, n, to⟩ pn ⟨pc, dn, bt, met, regs⟩ = .inl (4, 0, (met : Int)) := step_lim (F := ⟨args.length, R, len, op, ds, a, b, n, to⟩) (s := ⟨pc, dn, bt, met, regs⟩) (by show op pc ≠ 9; rw [hopH.out]; decide) (lim_true (by first | exact .inl (by simpa using hl1) | exact .inr (by simpa using hl2)))
              have hR : RES = (4, 0, (met : Int)) := hrun.out.symm.trans (runS_inl hst)
              refine bodyPost_ret_by (results_cell_row results8 _ _ (w.heap.size + 1) 34 _ (0, 0) _ rfl (fin_row (hIa).bX _ _ _) Tryz.underlying34 rfl size34) rfl ⟨?_, ((((hIa).below.setCell (by simp only; omega) _).setCell (by simp only; omega) _).setCell (by simp only; omega) _)⟩
              rw [hR]
            · have hl3 : (bt : Int) < 16 * (1024 + (len : Int)) := by omega
              have hl4 : (dn : Int) < 4194304 := by omega
              go_wp2
              have hst : step ar ⟨args.length, R, len, op, ds, a, b, n, to⟩ pn ⟨pc, dn, bt, met, regs⟩ = .inl (1, 0, (met : Int)) := (step_body (F := ⟨args.length, R, len, op, ds, a, b, n, to⟩) (s := ⟨pc, dn, bt, met, regs⟩) (by show op pc ≠ 9; rw [hopH.out]; decide) (lim_false (F := ⟨args.length, R, len, op, ds, a, b, n, to⟩) (s := ⟨pc, dn, bt, met, regs⟩) (by simpa using hl1) (by simpa using hl2))).trans (by simp [body, go, hopH.out])
              have hR : RES = (1, 0, (met : Int)) := hrun.out.symm.trans (runS_inl hst)
              refine bodyPost_ret_by (results_cell_row results8 _ _ (w.heap.size + 1) 34 _ (0, 0) _ rfl (fin_row (hIa).bX _ _ _) Tryz.underlying34 rfl size34) rfl ⟨?_, ((((hIa).below.setCell (by simp only; omega) _).setCell (by simp only; omega) _).setCell (by simp only; omega) _)⟩
              rw [hR]
      · as_aux_lemma =>
          have hpn1 := hnext (by decide) (by decide) (by decide)
          have hbb : (bt : Int) + 1 ≤ 9223372036854775807 := by omega
          have hpe1 := hpe.out
          by_cases hp : pn ≤ met
          · have hp' : pi ≤ met := by omega
            clear hpe1
            go_wp2
            have hst : step ar ⟨args.length, R, len, op, ds, a, b, n, to⟩ pn ⟨pc, dn, bt, met, regs⟩ = .inl (3, 0, (met : Int)) := by simp [step, hopH.out, hp]
            have hR : RES = (3, 0, (met : Int)) := hrun.out.symm.trans (runS_inl hst)
            refine bodyPost_ret_by (results_cell_row results8 _ _ (w.heap.size + 1) 34 _ (0, 0) _ rfl (fin_row (hIa).bX _ _ _) Tryz.underlying34 rfl size34) rfl ⟨?_, ((((hIa).below.setCell (by simp only; omega) _).setCell (by simp only; omega) _).setCell (by simp only; omega) _)⟩
            rw [hR]
          · have hpD : decide (pi ≤ (met : Int)) = false := by simp only [decide_eq_false_iff_not]; omega
            clear hpe1
            have hpH : Hid (¬ pn ≤ met) := hp
            have hm1 : (met : Int) + 1 ≤ 9223372036854775807 := by omega
            have hm2 : met + 1 ≤ pn := by omega
            clear hp
            go_wp2
            have hp := hpH.out
            have hst : step ar ⟨args.length, R, len, op, ds, a, b, n, to⟩ pn ⟨pc, dn, bt, met, regs⟩ = .inr ⟨pc + 1, dn + 1, 0, met + 1, regs⟩ := by simp [step, hopH.out, hp]
            go_roundg (meas pn ⟨pc + 1, dn + 1, 0, met + 1, regs⟩)
            case measure => exact hme _ hst
            case rel => exact ⟨⟨pc + 1, dn + 1, 0, met + 1, regs⟩, rfl, by go_num, by go_num, by go_num, by go_num, (hIa.state rfl), ⟨hpn1, hregs, by simp only; omega, by simp only; omega, by simp only; omega, hrng⟩, (runS_inr hst).symm.trans hrun.out⟩
end Go.Proofs.YtondggcbldnhcaaGreat.irx
