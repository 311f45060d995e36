/-
  For SimPlays: registers 4 and 5 are never touched; appends of nothing; a region whose first calls turn the world.
-/
import Derived.Test.YtpcocfdgcihpdaaSmV
set_option maxHeartbeats 64000000
set_option maxRecDepth 1000000
set_option linter.unusedVariables false
set_option linter.unusedSimpArgs false
namespace Go.Proofs.Ytpcocfdgcihpdaa.rdw
open Go Go.RowKit Go.BigFrame
open Go.Proofs.Ytpcocfdgcihpdaa Go.Proofs.Ytpcocfdgcihpdaa.wr Go.Proofs.Ytpcocfdgcihpdaa.x86enc
theorem run_append_emp {P : Program} (w : World) (b : Addr) (n c : Nat) (hnc : n ≤ c) (va : Option Addr) (vc : Nat) (t ty e : TypeId) (i : TypeInfo) (ht : P.underlying t = some (.slice e)) (hi : P.info? e = some i) :
    (Builtin.append_ #[t, t] ty #[.slice (some b) n c, .slice va 0 vc]).run P w = .ok (.slice (some b) n c) w := by
  cases va <;> simp [Builtin.append_, run_underlying ht, sizeOf, typeInfo, hi, Builtin.lenOf, Builtin.firstCells, loadCells, loadCellsFrom, storeCells, Result.andThen, hnc]
theorem run_append_nil0 {P : Program} (w : World) (va : Option Addr) (vc : Nat) (t ty e : TypeId) (i : TypeInfo) (ht : P.underlying t = some (.slice e)) (hi : P.info? e = some i) :
    (Builtin.append_ #[t, t] ty #[.slice none 0 0, .slice va 0 vc]).run P w = .ok (.slice none 0 0) w := by
  cases va <;> simp [Builtin.append_, run_underlying ht, sizeOf, typeInfo, hi, Builtin.lenOf, Builtin.firstCells, loadCells, loadCellsFrom, storeCells, Result.andThen]
theorem wpList_append_emp {P : Program} {ops : Array Oper} {rest : List Oper} {o : Oper} {a : Act} {w : World} {Q : Exit → Act → World → Prop} (hgd : o.guard = none) (s x : Operand) (t : TypeId)
    (hop : o.op = Op.call { callee := Callee.builtin Builtin.append, args := #[s, x], argTypes := #[t, t] }) (e : TypeId) (i : TypeInfo) (h1 : P.underlying t = some (.slice e)) (h2 : P.info? e = some i)
    (B size : Nat) (v : Value) (n : Nat) (xs : List Value) (hs : a.eval s = v) (hown : w.ownsRow B e size v n xs) (va : Option Addr) (vc : Nat) (hx : a.eval x = .slice va 0 vc) (h : wpList P ops Q rest (a.put o.dst v) w) : wpList P ops Q (o :: rest) a w := by
  refine wpList_plain hgd fun _ hK => ?_
  have hrun : (Builtin.append_ #[t, t] o.type #[v, .slice va 0 vc]).run P w = .ok v w := by
    obtain ⟨g1, g2⟩ := hown
    rcases g2 with ⟨rfl, rfl⟩ | ⟨g, cap, cur, rfl, _, _, hnc, _⟩
    · exact run_append_nil0 w va vc t o.type e i h1 h2
    · exact run_append_emp w _ n cap hnc va vc t o.type e i h1 h2
  unfold Oper.wp
  simp [execOp, hop, resolve, invoke, builtin, hs, hx, hrun, Result.andThen]
  exact hK _ _ h
theorem read_45 {x : List Int} {op : Nat} {a b n : Int} {len : Nat} (h : RD.Reads x (.ok op a b n len)) : a ≠ 4 ∧ a ≠ 5 := by
  cases h with
  | ok h1 h2 h =>
    obtain ⟨ha, hb, hn⟩ := (RD.valid_iff _ _ _ _).1 h.1
    have key : ∀ u : Bool, ∀ v : Int, RD.okA u v = true → v ≠ 4 ∧ v ≠ 5 := by
      intro u v hv
      revert hv; cases u <;> simp [RD.okA, RD.reg_iff] <;> omega
    exact key _ _ ha
theorem upd_ne {R : Nat → Int} {r j : Nat} {v : Int} (h : j ≠ r) : upd R r v j = R j := if_neg h
theorem exA_45 (m : Mach) (op a b : Nat) (n : Int) (h1 : 1 ≤ op) (h2 : op ≤ 26) (ha : a ≠ 4 ∧ a ≠ 5) (r : Nat) (hr : r = 4 ∨ r = 5) : (exA m op a b n).1.R r = m.R r := by
  have h0 : r ≠ a := by omega
  have h3 : r ≠ 2 := by omega
  have h4 : r ≠ 0 := by omega
  rcases RD.op_cases op h1 h2 with e | e | e | e | e | e | e | e | e | e | e | e | e | e | e | e | e | e | e | e | e | e | e | e | e | e <;> subst e
  case inr.inr.inl => simp only [exA]; split <;> first | rfl | exact upd_ne h0
  case inr.inr.inr.inl => simp only [exA]; split <;> rfl
  case inr.inr.inr.inr.inr.inr.inr.inr.inr.inr.inr.inr.inr.inl => simp only [exA]; split <;> first | rfl | exact (upd_ne h3).trans (upd_ne h4)
  all_goals first | rfl | exact upd_ne h0 | exact upd_ne h3
def Z45 (m : Mach) : Prop := m.R 4 = 0 ∧ m.R 5 = 0
theorem next_45 {bs : List Int} {m m' : Mach} {s : Int} (h : next bs m m' s) (hz : Z45 m) : Z45 m' := by
  rcases h with ⟨_, rfl, _⟩ | ⟨_, d, hd, rfl, _⟩
  · exact hz
  · cases d with
    | err er => exact hz
    | ok op a b n len =>
      have hin : RD.Reads (bs.drop m.at_.toNat) (.ok op a b n len) := by
        rcases hd with h | ⟨_, h⟩
        · exact h.2.2
        · cases h
      obtain ⟨f1, f2, ⟨ra, ha, rfl⟩, ⟨rb, hb, rfl⟩, hn', hl⟩ := read_fit hin
      have h45 := read_45 hin
      have key : ∀ r, r = 4 ∨ r = 5 → (stepP m (.ok op ra rb n len)).1.R r = m.R r := by
        intro r hr
        have e := exA_45 { m with at_ := m.at_ + len } op ra rb n f1 f2 (by omega) r hr
        simp only [stepP, Int.toNat_natCast]
        split
        · exact e
        · split
          · exact e
          · exact e
      exact ⟨(key 4 (.inl rfl)).trans hz.1, (key 5 (.inr rfl)).trans hz.2⟩
theorem reg16Z (g : Nat) (cv rv wv : Value) (m : Mach) (op a b n : Int) (hz : Z45 m) (r : Nat) (hr : r < 16) (w : World) (h : SMem w g cv rv wv m op a b n) :
    Calls Try.prog 16 #[ptr g, .int .i64 (r : Int)] w fun e w' => e = .returned (.int .i32 (m.R r)) ∧ w' = w := by
  refine (reg16 g cv rv wv m op a b n r hr w h).mono fun e w' hh => ?_
  obtain ⟨rfl, rfl⟩ := hh
  refine ⟨?_, rfl⟩
  by_cases hx : RD.reg (r : Int) = true
  · rw [if_pos hx]
  · rw [if_neg hx]
    have : r = 4 ∨ r = 5 := by
      have : ¬ (0 ≤ (r : Int) ∧ (r : Int) ≤ 15 ∧ (r : Int) ≠ 4 ∧ (r : Int) ≠ 5) := fun h => hx ((RD.reg_iff _).2 h)
      omega
    rcases this with rfl | rfl
    · rw [hz.1]
    · rw [hz.2]
theorem wpAny_quiet4 {P : Program} {Q : Exit → Act → World → Prop} {a : Act} {w : World} {o0 o1 o2 o3 : Oper} {l : List Oper} {fuel : Nat} {listed : Array Bool} (hf : fuel = l.length) (hs : Region.noSelect (o0 :: o1 :: o2 :: o3 :: l).toArray = true)
    (hB : Region.lexFrom .any (o0 :: o1 :: o2 :: o3 :: l).toArray l.length 4 listed = true)
    (h : wpQuiet P (o0 :: o1 :: o2 :: o3 :: l).toArray (fun w' => ∃ n, w' = w.drewN n) (fun a' => ∀ w', (∃ n, w' = w.drewN n) → Q .normal a' w') l a) : wpAny P .any (o0 :: o1 :: o2 :: o3 :: l).toArray Q fuel listed a w := by
  subst hf
  refine wpAny_of_quiet (C := fun w' => ∃ n, w' = w.drewN n) (Q := fun a' => ∀ w', (∃ n, w' = w.drewN n) → Q .normal a' w') (fun _ w' hw' h => h w' hw') _ _ _ _ ⟨0, rfl⟩ (wpAnyQ_lex hs l 4 listed a (fun j => ?_) hB h)
  have : 4 + j = j + 1 + 1 + 1 + 1 := by omega
  rw [this]
  simp
theorem wpList_append_raw {ops : Array Oper} {rest : List Oper} {o : Oper} {a : Act} {w : World} {Q : Exit → Act → World → Prop} (hgd : o.guard = none) (s xo : Operand)
    (ho : o.op = Op.call { callee := Callee.builtin Builtin.append, args := #[s, xo], argTypes := #[27, 27] }) (w0 : World) (bs xs : List Int) (v : Value) (hs : a.eval s = v) (hown : w.ownsRow w0.heap.size 5 1 v bs.length (u8s bs)) (hb : Below w0.heap.size w0 w)
    (bd : Option Addr) (c : Nat) (hx : a.eval xo = .slice bd xs.length c) (hsrc : xs = [] ∨ ∃ b off, bd = some ⟨b, off, none⟩ ∧ b < w0.heap.size ∧ ∀ j, j < xs.length → w0.cell? ⟨b, off + j, none⟩ = some (.int .u8 (xs.getD j 0))) (hl : bs.length + xs.length ≤ 100000)
    (h : ∀ v' w', w'.ownsRow w0.heap.size 5 1 v' (bs ++ xs).length (u8s (bs ++ xs)) → Below w0.heap.size w0 w' → wpList Try.prog ops Q rest (a.put o.dst v') w') : wpList Try.prog ops Q (o :: rest) a w := by
  obtain ⟨i0, hi, hz0, hz1, hz2⟩ := info_parts info5
  rcases hsrc with rfl | ⟨b, off, rfl, hb1, hc⟩
  · refine wpList_append_emp hgd s xo 27 ho 5 i0 Try.underlying27 hi w0.heap.size 1 v bs.length (u8s bs) hs hown bd c (by simpa using hx) (h v w ?_ hb)
    rw [List.append_nil]; exact hown
  · refine wpList_append_own w hgd s xo 27 ho w0.heap.size 5 i0 (.int .u8 0) 1 1 Try.underlying27 hi hz0 hz1 hz2 rfl (by decide) v _ _ hs hown ⟨b, off, none⟩ xs.length c (u8s xs) hx (by simp [u8s]) (src_bytes (fun j hj => (hb.cell (p := ⟨b, off + j, none⟩) hb1).trans (hc j hj))) (one_u8s xs) (by unfold maxLen; omega) (by omega) hb.size ?_
    intro v3 w3 hv3 hgrow3 _
    refine h v3 w3 ?_ (hb.grown hgrow3 hb.size (fun j hj => (hown.lt j hj).1))
    rw [u8s_append, List.length_append]; exact hv3
theorem codeN21b (g : Nat) (cv rv wv : Value) (m : Mach) (op a b n : Int) (w : World) (h : SMem w g cv rv wv m op a b n) :
    Calls Try.prog 21 #[ptr g] w fun e w' => e = .returned (.int .i64 m.N) ∧ w' = w := by
  have c21 := h.cell 21 rfl
  have H := Lib.hid h; clear h
  go_enter Try.func21, Try.ntmps21
  go_wp2_with fail
  go_ret
  exact ⟨rfl, rfl⟩
end Go.Proofs.Ytpcocfdgcihpdaa.rdw
