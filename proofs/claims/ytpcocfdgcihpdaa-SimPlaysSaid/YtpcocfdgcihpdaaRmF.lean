/-
  caraferef20.New: a machine in new memory.
-/
import Derived.Test.YtpcocfdgcihpdaaRmE
import Derived.Deep.RegionLawGrows
set_option maxHeartbeats 64000000
set_option maxRecDepth 1000000
set_option linter.unusedVariables false
set_option linter.unusedSimpArgs false
namespace Go.Proofs.Ytpcocfdgcihpdaa.rdw
open Go Go.RowKit Go.BigFrame
open Go.Proofs.Ytpcocfdgcihpdaa Go.Proofs.Ytpcocfdgcihpdaa.wr Go.Proofs.Ytpcocfdgcihpdaa.x86enc
set_option linter.unusedVariables false
set_option linter.unusedSimpArgs false
def ez : Array Value := #[.bool false, .int .i64 0, .int .i64 0, .int .i64 0, .int .i32 0, .int .i64 0]
theorem info75 : (Try.prog.info? 75).map (fun i => (i.zero, i.size, i.bytes)) = some (some (.agg #[.bool false, .int .i64 0, .int .i64 0, .int .i64 0, .int .i32 0, .int .i64 0]), 6, 48) := by kernel_rfl
theorem mk46 (L : Nat) (hL : L ≤ 100000) (w : World) : (Instr.makeSlice 46 (.int .i64 (L : Int)) (.int .i64 (L : Int))).run Try.prog w = .ok (.slice (some ⟨w.heap.size, 0, none⟩) L L) (w.alloc (.cells (madeCells ez (L * 6)) 75)) := by
  obtain ⟨i0, hi, hz0, hz1, hz2⟩ := info_parts info75
  have hr := run_make (P := Try.prog) w 46 75 i0 _ Try.underlying46 hi hz0 .i64 .i64 L L (by omega) (Int.le_refl _) (by rw [hz2]; omega) (by omega)
  simp only [Int.toNat_natCast, hz1] at hr
  exact hr
structure NewN (B : Nat) (w' : World) (g gk gw gb cb : Nat) (bs : List Int) (nw : Nat) : Prop where
  h : w'.heap[g]? = some (.cells (nc (.slice (some ⟨gb, 0, none⟩) bs.length cb) (wsl gw nw) (.slice (some ⟨gk, 0, none⟩) bs.length bs.length) m0 0).toArray 48 (0, 0))
  hk : w'.heap[gk]? = some (.cells (madeCells ez (bs.length * 6)) 75 (0, 0))
  hw : w'.heap[gw]? = some (.cells (madeCells #[.int .i32 0] nw) 21 (0, 0))
  row : Row w' gb 0 bs
  cap : bs.length ≤ cb ∧ cb ≤ 9223372036854775807
  low : B ≤ g ∧ B ≤ gk ∧ B ≤ gw ∧ B ≤ gb
  dis : g ≠ gk ∧ g ≠ gw ∧ g ≠ gb ∧ gk ≠ gw ∧ gk ≠ gb ∧ gw ≠ gb
theorem new17 (bs : List Int) (B : Nat) (v : Value) (nw : Nat) (w : World) (hB : B ≤ w.heap.size) (h : w.ownsRow B 5 1 v bs.length (u8s bs)) (hne : bs ≠ []) (hlen : bs.length ≤ 100000) (hnw : nw ≤ 256) :
    Calls Try.prog 17 #[v, .int .i64 (nw : Int)] w fun e w' => ∃ g gk gw gb cb : Nat, e = .returned (ptr g) ∧ NewN w.heap.size w' g gk gw gb cb bs nw ∧ Below w.heap.size w w' := by
  obtain ⟨i0, hi, hz0, hz1, hz2⟩ := info_parts info5
  obtain ⟨g, cap, rfl, q1, q2, q3⟩ := own_row (n := 0) h hne
  have M45 := fun w => mk45 nw (by omega) w
  have M46 := fun w => mk46 bs.length hlen w
  have hpos : 0 < bs.length := by cases bs with | nil => exact absurd rfl hne | cons a l => simp
  have hsrc : ∀ w1, Below w.heap.size w w1 → ∀ j u, (u8s bs)[j]? = some u → w1.cell? ((⟨g, 0, none⟩ : Addr).add j) = some u := fun w1 hb => src_bytes (fun j hj => (hb.cell q3.1).trans (q3.2 j hj))
  have HS := Lib.hid hsrc; clear hsrc q3
  have HH := Lib.hid h; clear h
  go_enter Try.func17, Try.ntmps17
  go_wp2_with fail
  go_region_law (refine step_append_grows rfl (.tmp 5) (.tmp 6) 27 rfl 5 i0 (.int .u8 0) 1 1 Try.underlying27 hi hz0 hz1 hz2 rfl (by decide) _ 0 0 [] (by simp [Act.eval, Act.put]; rfl) (by simp) rfl (by simp) ⟨g, 0, none⟩ bs.length cap (u8s bs) (by simp [Act.eval, Act.put]) (by simp [u8s]) (HS.out _ (by repeat (first | exact Below.refl _ _ | exact (Below.refl _ _).drew | refine Below.drew ?_ | refine Below.alloc ?_ (by first | omega | (simp; done) | (simp; omega)) _))) (one_u8s bs) (by omega) (by unfold maxLen; omega) (by omega) ?_; intro v3 w1 hown hgrow; have hb0 : Below _ _ w1 := (Below.refl _ _).grown hgrow (Nat.le_refl _) (fun j hj => by cases hj); obtain ⟨gb, cb, rfl, hcb, hcb2, hrow⟩ := own_row (n := 0) (by simpa using hown) hne; have hlo := (hown.lt gb rfl).1; have HROW := Lib.hid hrow; have HB1 := Lib.hid hb0; clear hown hgrow hrow hb0)
  all_goals go_wp2
  all_goals go_ret
  all_goals
    have hb1 := HB1.out
    have hrow := HROW.out
    have s1 := hb1.size
    have s2 := hrow.1
    have s3 : ∀ w : World, w.drew.heap.size = w.heap.size := fun _ => rfl
    simp [s3] at s1 hlo
    refine ⟨_, _, _, gb, cb, rfl, ⟨look_new (by simp) rfl, ?_, ?_, hrow.mono (by first | exact Below.refl _ _ | exact (Below.refl _ _).alloc (Nat.le_refl _) _ | exact ((Below.refl _ _).alloc (Nat.le_refl _) _).alloc (by simp) _ | exact (((Below.refl _ _).alloc (Nat.le_refl _) _).alloc (by simp) _).alloc (by first | omega | (simp; done) | (simp; omega)) _), ⟨hcb, hcb2⟩, by first | omega | (simp [s3]; omega), by first | omega | (simp [s3]; omega)⟩, ?_⟩
    · repeat (first | exact look_new (by simp) rfl | refine look_old ?_ | refine look_below hb1 ?_)
    · repeat (first | exact look_new (by simp) rfl | refine look_old ?_ | refine look_below hb1 ?_)
    · repeat (first | exact Below.refl _ _ | exact (Below.refl _ _).drew | refine Below.drew ?_ | refine Below.alloc ?_ (by first | omega | (simp [s3]; done) | (simp [s3]; omega)) _ | refine Below.trans ?_ (hb1.mono (by first | exact Nat.le_refl _ | omega | (simp [s3]; done) | (simp [s3]; omega))))
theorem run_append_zero {P : Program} (w : World) (b : Addr) (va : Option Addr) (vc : Nat) (t ty e : TypeId) (i : TypeInfo) (ht : P.underlying t = some (.slice e)) (hi : P.info? e = some i) :
    (Builtin.append_ #[t, t] ty #[.slice (some b) 0 0, .slice va 0 vc]).run P w = .ok (.slice (some b) 0 0) w := by
  cases va <;> simp [Builtin.append_, run_underlying ht, sizeOf, typeInfo, hi, Builtin.lenOf, Builtin.firstCells, loadCells, loadCellsFrom, storeCells, Result.andThen]
theorem wp_append_zero {P : Program} {o : Oper} {a : Act} {w : World} {K : Act → World → Prop} {Q : Exit → Act → World → Prop}
    (s x : Operand) (t : TypeId) (hop : o.op = Op.call { callee := Callee.builtin Builtin.append, args := #[s, x], argTypes := #[t, t] }) (e : TypeId) (i : TypeInfo) (h1 : P.underlying t = some (.slice e)) (h2 : P.info? e = some i)
    (b : Addr) (hs : a.eval s = .slice (some b) 0 0) (va : Option Addr) (vc : Nat) (hx : a.eval x = .slice va 0 vc) (hK : K (a.put o.dst (.slice (some b) 0 0)) w) : Oper.wp P o a w K Q := by
  have hrun := run_append_zero (P := P) w b va vc t o.type e i h1 h2
  unfold Oper.wp
  simp [execOp, hop, resolve, invoke, builtin, hs, hx, hrun, Result.andThen]
  exact hK
theorem step_append_zero {P : Program} {ops : Array Oper} {o : Oper} {a : Act} {w : World} {K : Act → World → Prop} {Q : Exit → Act → World → Prop} {E : Prop}
    (hg : o.guard = none) (s x : Operand) (t : TypeId) (hop : o.op = Op.call { callee := Callee.builtin Builtin.append, args := #[s, x], argTypes := #[t, t] }) (e : TypeId) (i : TypeInfo) (h1 : P.underlying t = some (.slice e)) (h2 : P.info? e = some i)
    (b : Addr) (hs : a.eval s = .slice (some b) 0 0) (va : Option Addr) (vc : Nat) (hx : a.eval x = .slice va 0 vc) (hK : K (a.put o.dst (.slice (some b) 0 0)) w) :
    if Region.wanted o (yielded ops a.tmps) = true then Oper.wp P o a w K Q else E := by
  have hw : Region.wanted o (yielded ops a.tmps) = true := by simp [Region.wanted, hg]
  rw [if_pos hw]
  exact wp_append_zero s x t hop e i h1 h2 b hs va vc hx hK
theorem wpList_append_zero {P : Program} {ops : Array Oper} {rest : List Oper} {o : Oper} {a : Act} {w : World} {Q : Exit → Act → World → Prop} (hgd : o.guard = none) (s x : Operand) (t : TypeId)
    (hop : o.op = Op.call { callee := Callee.builtin Builtin.append, args := #[s, x], argTypes := #[t, t] }) (e : TypeId) (i : TypeInfo) (h1 : P.underlying t = some (.slice e)) (h2 : P.info? e = some i)
    (b : Addr) (hs : a.eval s = .slice (some b) 0 0) (va : Option Addr) (vc : Nat) (hx : a.eval x = .slice va 0 vc) (h : wpList P ops Q rest (a.put o.dst (.slice (some b) 0 0)) w) : wpList P ops Q (o :: rest) a w :=
  wpList_plain hgd fun _ hK => wp_append_zero s x t hop e i h1 h2 b hs va vc hx (hK _ _ h)
theorem clone26E (va : Option Addr) (vc : Nat) (w : World) :
    Calls Try.prog 26 #[.slice va 0 vc] w fun e w' => ∃ ca, e = .returned (.slice ca 0 0) ∧ Below w.heap.size w w' := by
  obtain ⟨i0, hi, hz0, hz1, hz2⟩ := info_parts info5
  have he27 := fun w : World => Lib.run_eql_slice_nil (P := Try.prog) w 27 5 va 0 vc 0 0 Try.underlying27
  obtain ⟨nb, hnb⟩ : ∃ nb, va.isNone = nb := ⟨_, rfl⟩
  rw [hnb] at he27
  have HN := Lib.hid hnb; clear hnb
  cases nb
  · go_enter Try.func26, Try.ntmps26
    go_wp2_with (at_builtin; refine wpList_append_zero rfl (.tmp 5) (.tmp 6) 27 rfl 5 i0 Try.underlying27 hi _ rfl va vc rfl ?_)
    go_ret
    exact ⟨_, rfl, (Below.refl _ _).alloc (Nat.le_refl _) _⟩
  · go_enter Try.func26, Try.ntmps26
    go_wp2_with fail
    go_ret
    exact ⟨_, rfl, Below.refl _ _⟩
structure NewE (B : Nat) (w' : World) (g gw : Nat) (ca ka : Option Addr) (nw : Nat) : Prop where
  h : w'.heap[g]? = some (.cells (nc (.slice ca 0 0) (wsl gw nw) (.slice ka 0 0) m0 0).toArray 48 (0, 0))
  hw : w'.heap[gw]? = some (.cells (madeCells #[.int .i32 0] nw) 21 (0, 0))
  low : B ≤ g ∧ B ≤ gw
  dis : g ≠ gw
theorem new17E (va : Option Addr) (vc : Nat) (nw : Nat) (w : World) (hnw : nw ≤ 256) :
    Calls Try.prog 17 #[.slice va 0 vc, .int .i64 (nw : Int)] w fun e w' => ∃ (g gw : Nat) (ca ka : Option Addr), e = .returned (ptr g) ∧ NewE w.heap.size w' g gw ca ka nw ∧ Below w.heap.size w w' := by
  obtain ⟨i0, hi, hz0, hz1, hz2⟩ := info_parts info5
  have M45 := fun w => mk45 nw (by omega) w
  have M46 := fun w => mk46 0 (by omega) w
  simp only [Int.natCast_zero, Int.ofNat_zero] at M46
  go_enter Try.func17, Try.ntmps17
  go_wp2_with fail
  go_region_law (refine step_append_zero rfl (.tmp 5) (.tmp 6) 27 rfl 5 i0 Try.underlying27 hi _ (by simp [Act.eval, Act.put]; rfl) va vc (by simp [Act.eval, Act.put]) ?_)
  all_goals go_wp2
  all_goals go_ret
  all_goals
    have s3 : ∀ w : World, w.drew.heap.size = w.heap.size := fun _ => rfl
    refine ⟨_, _, _, _, rfl, ⟨look_new (by simp) rfl, ?_, by first | omega | (simp [s3]; done) | (simp [s3]; omega), by first | omega | (simp [s3]; done) | (simp [s3]; omega)⟩, ?_⟩
    · repeat (first | exact look_new (by simp) rfl | refine look_old ?_)
    · repeat (first | exact Below.refl _ _ | exact (Below.refl _ _).drew | refine Below.drew ?_ | refine Below.alloc ?_ (by first | omega | (simp [s3]; done) | (simp [s3]; omega)) _)
structure NewS (B : Nat) (w' : World) (g gw : Nat) (ca ra : Option Addr) (nw : Nat) : Prop where
  h : w'.heap[g]? = some (.cells (mc (.slice ca 0 0) (.slice ra 0 0) (wsl gw nw) m0 0 0 0 0).toArray 60 (0, 0))
  hw : w'.heap[gw]? = some (.cells (madeCells #[.int .i32 0] nw) 21 (0, 0))
  low : B ≤ g ∧ B ≤ gw
  dis : g ≠ gw
theorem new9E (va : Option Addr) (vc : Nat) (nw : Nat) (w : World) (hnw : nw ≤ 256) :
    Calls Try.prog 9 #[.slice va 0 vc, .int .i64 (nw : Int)] w fun e w' => ∃ (g gw : Nat) (ca ra : Option Addr), e = .returned (.tuple #[ptr g, .int .i64 0]) ∧ NewS w.heap.size w' g gw ca ra nw ∧ Below w.heap.size w w' := by
  have M58 := fun w => mk58 0 (by omega) w
  simp only [Int.natCast_zero, Int.ofNat_zero] at M58
  have M45 := fun w => mk45 nw (by omega) w
  have hd : decide ((256 : Int) < (nw : Int)) = false := by simp; omega
  have C := Lib.hid (fun (w1 : World) => clone26E va vc w1)
  go_enter Try.func9, Try.ntmps9
  go_wp2_with fail
  go_region_law (go_simp; go_at_call 26; refine (C.out _).mono ?_; rintro e w1 ⟨ca, rfl, hb1⟩)
  all_goals go_wp2
  all_goals go_ret2
  all_goals
    have s1 := hb1.size
    have s3 : ∀ w : World, w.drew.heap.size = w.heap.size := fun _ => rfl
    simp [s3] at s1
    refine ⟨_, _, _, _, rfl, ⟨look_new (by simp) rfl, ?_, by first | omega | (simp [s3]; done) | (simp [s3]; omega), by first | omega | (simp [s3]; done) | (simp [s3]; omega)⟩, ?_⟩
    · repeat (first | exact look_new (by simp) rfl | refine look_old ?_ | refine look_below hb1 ?_)
    · repeat (first | exact Below.refl _ _ | exact (Below.refl _ _).drew | refine Below.drew ?_ | refine Below.alloc ?_ (by first | omega | (simp [s3]; done) | (simp [s3]; omega)) _ | refine Below.trans ?_ (hb1.mono (by first | exact Nat.le_refl _ | omega | (simp [s3]; done) | (simp [s3]; omega))))
end Go.Proofs.Ytpcocfdgcihpdaa.rdw
