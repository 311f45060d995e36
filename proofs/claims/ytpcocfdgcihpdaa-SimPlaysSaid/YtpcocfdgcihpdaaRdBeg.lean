/-
  x86.begins: is what there is the beginning of an instruction?
-/
import Derived.Test.YtpcocfdgcihpdaaRdOf
import Derived.Test.YtpcocfdgcihpdaaRdBytes
set_option maxHeartbeats 64000000
set_option maxRecDepth 1000000
set_option linter.unusedVariables false
set_option linter.unusedSimpArgs false
namespace Go.Proofs.Ytpcocfdgcihpdaa.rdw
open Go Go.RowKit
open Go.Proofs.Ytpcocfdgcihpdaa Go.Proofs.Ytpcocfdgcihpdaa.wr
set_option linter.unusedVariables false
set_option linter.unusedSimpArgs false
theorem ofK (k : Nat) (h1 : 1 ≤ k) (h2 : k ≤ 26) : OfC k (RD.form k).code.length (RD.form k).a (RD.form k).b (RD.form k).nb (RD.form k).md (RD.form k).x (RD.form k).y (RD.form k).ld := by
  rcases RD.op_cases k h1 h2 with e | e | e | e | e | e | e | e | e | e | e | e | e | e | e | e | e | e | e | e | e | e | e | e | e | e <;> subst e
  · exact of_1
  · exact of_2
  · exact of_3
  · exact of_4
  · exact of_5
  · exact of_6
  · exact of_7
  · exact of_8
  · exact of_9
  · exact of_10
  · exact of_11
  · exact of_12
  · exact of_13
  · exact of_14
  · exact of_15
  · exact of_16
  · exact of_17
  · exact of_18
  · exact of_19
  · exact of_20
  · exact of_21
  · exact of_22
  · exact of_23
  · exact of_24
  · exact of_25
  · exact of_26
def sel (u : Bool) (a : Int) : Int := bif u then a else 0
def R14 : List Int := RD.regsOf true
theorem sel_ok (u : Bool) (a : Int) (h : a ∈ R14) : RD.okA u (sel u a) = true := by
  cases u
  · rfl
  · exact (RD.mem_regsOf true a).1 h
def cnd (k : Nat) (a c : Int) (x : List Int) : Bool := RD.begins x (RD.head k (sel (RD.form k).a a) (sel (RD.form k).b c))
def N0 (k : Nat) (x : List Int) : Prop := ∀ k', 1 ≤ k' → k' < k → ∀ a ∈ R14, ∀ c ∈ R14, cnd k' a c x = false
def N1 (k i : Nat) (x : List Int) : Prop := ∀ i', i' < i → ∀ c ∈ R14, cnd k (R14.getD i' 0) c x = false
def N2 (k : Nat) (a : Int) (j : Nat) (x : List Int) : Prop := ∀ j', j' < j → cnd k a (R14.getD j' 0) x = false
def BegPost (x : List Int) (w : World) (e : Ending) (w' : World) : Prop := (∃ r : Bool, e = .returned (.bool r) ∧ (r = true ↔ RD.start x)) ∧ Below w.heap.size w w'
theorem start_of {k : Nat} (h1 : 1 ≤ k) (h2 : k ≤ 26) {a c : Int} (ha : a ∈ R14) (hc : c ∈ R14) {x : List Int} (h : cnd k a c x = true) : RD.start x :=
  ⟨k, _, _, h1, h2, sel_ok _ a ha, sel_ok _ c hc, h⟩
theorem no_start {x : List Int} (h : N0 27 x) : ¬ RD.start x := by
  rintro ⟨k, r, s, h1, h2, hr, hs, hb⟩
  have key : ∀ (u : Bool) (r : Int), RD.okA u r = true → ∃ a ∈ R14, sel u a = r := by
    intro u r hr
    cases u
    · refine ⟨0, by decide, ?_⟩
      have : r = 0 := by simpa [RD.okA] using hr
      rw [this]; rfl
    · exact ⟨r, (RD.mem_regsOf true r).2 hr, rfl⟩
  obtain ⟨a, ha, rfl⟩ := key _ _ hr
  obtain ⟨c, hc, rfl⟩ := key _ _ hs
  have := h k h1 (by omega) a ha c hc
  unfold cnd at this
  rw [hb] at this; cases this
theorem mem_getD {i : Nat} (h : i < 14) : R14.getD i 0 ∈ R14 := by
  have hl : i < R14.length := h
  have : R14.getD i 0 = R14[i] := by simp [List.getD, hl]
  rw [this]; exact List.getElem_mem hl
abbrev lit14 : Array Value := #[.int .i64 0, .int .i64 1, .int .i64 2, .int .i64 3, .int .i64 6, .int .i64 7, .int .i64 8, .int .i64 9, .int .i64 10, .int .i64 11, .int .i64 12, .int .i64 13, .int .i64 14, .int .i64 15]
theorem lit14_get (i : Nat) (h : i < 14) : lit14[i]? = some (.int .i64 (R14.getD i 0)) := by
  have : i = 0 ∨ i = 1 ∨ i = 2 ∨ i = 3 ∨ i = 4 ∨ i = 5 ∨ i = 6 ∨ i = 7 ∨ i = 8 ∨ i = 9 ∨ i = 10 ∨ i = 11 ∨ i = 12 ∨ i = 13 := by omega
  rcases this with h | h | h | h | h | h | h | h | h | h | h | h | h | h <;> subst h <;> rfl
theorem block_lt {w : World} {g : Nat} {o : Obj} (h : w.heap[g]? = some o) : g < w.heap.size := by
  apply Nat.lt_of_not_le
  intro hge
  have hn : w.heap[g]? = none := by simp [hge]
  rw [hn] at h; cases h
theorem head_bytes {k : Nat} (h1 : 1 ≤ k) (h2 : k ≤ 26) {a c : Int} (ha : RD.okA (RD.form k).a a = true) (hc : RD.okA (RD.form k).b c = true) : RD.isBytes (RD.head k a c) := by
  have ra : 0 ≤ a ∧ a ≤ 15 := by
    revert ha; cases (RD.form k).a <;> simp [RD.okA, RD.reg_iff] <;> omega
  have rc : 0 ≤ c ∧ c ≤ 15 := by
    revert hc; cases (RD.form k).b <;> simp [RD.okA, RD.reg_iff] <;> omega
  intro v hv
  unfold RD.head at hv
  rcases List.mem_append.1 hv with h | h
  · unfold RD.rex at h
    split at h
    · cases h
    · rename_i hne
      simp only [List.mem_singleton] at h
      have hl : 0 ≤ RD.last k a c ∧ RD.last k a c ≤ 15 ∧ 0 ≤ RD.mid k a c ∧ RD.mid k a c ≤ 15 := by
        unfold RD.last RD.mid RD.pick RD.form
        split <;> simp [RD.two, RD.one, RD.alone] <;> omega
      omega
  · revert h
    unfold RD.body RD.last RD.mid RD.pick RD.form
    split <;> simp [RD.two, RD.one, RD.alone] <;> intro h <;> omega
theorem begins_cases {x hd : List Int} : RD.begins x hd = (decide (x <+: hd) || (decide (hd.length < x.length) && decide (hd = x.take hd.length))) := by
  rw [Bool.eq_iff_iff, RD.begins_iff]
  simp only [Bool.or_eq_true, Bool.and_eq_true, decide_eq_true_eq]
  constructor
  · rintro (h | ⟨t, rfl⟩)
    · exact .inl h
    · cases t with
      | nil => left; simp
      | cons v t => right; simp
  · rintro (h | ⟨_, h⟩)
    · exact .inl h
    · right; rw [h]; exact List.take_prefix _ _
theorem n2_succ {k : Nat} {a : Int} {j : Nat} {x : List Int} (h : N2 k a j x) (h1 : cnd k a (R14.getD j 0) x = false) : N2 k a (j + 1) x := by
  intro j' hj
  rcases Nat.lt_or_ge j' j with hlt | hge
  · exact h j' hlt
  · obtain rfl : j' = j := by omega
    exact h1
theorem idx14 {c : Int} (h : c ∈ R14) : ∃ j, j < 14 ∧ R14.getD j 0 = c := by
  obtain ⟨j, hj, e⟩ := List.getElem_of_mem h
  exact ⟨j, hj, by simp [List.getD, hj, e]⟩
theorem n1_succ {k i : Nat} {x : List Int} (h : N1 k i x) (h1 : N2 k (R14.getD i 0) 14 x) : N1 k (i + 1) x := by
  intro i' hi c hc
  rcases Nat.lt_or_ge i' i with hlt | hge
  · exact h i' hlt c hc
  · obtain rfl : i' = i := by omega
    obtain ⟨j, hj, rfl⟩ := idx14 hc
    exact h1 j hj
theorem n0_succ {k : Nat} {x : List Int} (h : N0 k x) (h1 : N1 k 14 x) : N0 (k + 1) x := by
  intro k' hk hk2 a ha c hc
  rcases Nat.lt_or_ge k' k with hlt | hge
  · exact h k' hk hlt a ha c hc
  · obtain rfl : k' = k := by omega
    obtain ⟨i, hi, rfl⟩ := idx14 ha
    exact h1 i hi c hc
theorem ok0 (k : Nat) : RD.okN (RD.form k).nb 0 = true := by rcases RD.nb_cases k with e | e | e <;> rw [e] <;> decide
theorem enc_getD (k : Nat) (a c : Int) (j : Nat) (hj : j < (RD.head k a c).length) : (RD.enc k a c 0).getD j 0 = (RD.head k a c).getD j 0 := by
  unfold RD.enc
  simp only [List.getD, List.getElem?_append_left hj]
theorem begins33 (bb oo cap : Nat) (x : List Int) (w : World) (hL : 0 < x.length) (hL2 : x.length ≤ 9223372036854775807) (hcap : x.length ≤ cap) (hx : RD.isBytes x) (hr : Row w bb oo x) :
   Calls Try.prog 51 #[.slice (some ⟨bb, oo, none⟩) x.length cap] w (BegPost x w) := by
  have HX := Lib.hid hx; clear hx
  have HR := Lib.hid hr; clear hr
  go_enter Try.func51, Try.ntmps51
  go_wp2
  go_loopw [3] (fun s wq => ∃ k : Nat, 1 ≤ k ∧ k ≤ 27 ∧ s = .int .i64 k ∧ Below w.heap.size w wq ∧ Hid (N0 k x)) (fun s _ => 27 - (intOf s).toNat)
  case atStart => exact ⟨1, by omega, by omega, rfl, Below.refl _ _, Lib.hid fun k' h h' => by omega⟩
  case round =>
    obtain ⟨k, hk1, hk2, rfl, hbel, hN0⟩ := hrel
    by_cases hk : k ≤ 26
    · have hkd : decide ((k : Int) ≤ 26) = true := by simp; omega
      go_wp2_with fail
      obtain ⟨G, hG⟩ : ∃ G, wr.heap.size = G := ⟨_, rfl⟩
      have hbG : w.heap.size ≤ G := by rw [← hG]; exact hbel.size
      have hbA : Below w.heap.size w (wr.alloc (.cells lit14 3)) := hbel.alloc (by omega) _
      have hGA : (wr.alloc (.cells lit14 3)).heap[G]? = some (.cells lit14 3 (0, 0)) := by rw [← hG]; exact heap_alloc_new _ _
      rw [hG]
      go_loopw [20] (fun s wq => ∃ i : Nat, i ≤ 14 ∧ s = .int .i64 i ∧ Below w.heap.size w wq ∧ Hid (wq.heap[G]? = some (.cells lit14 3 (0, 0))) ∧ Hid (N1 k i x)) (fun s _ => 14 - (intOf s).toNat)
      case atStart => exact ⟨0, by omega, rfl, hbA, Lib.hid hGA, Lib.hid fun i' h => by omega⟩
      case round =>
        obtain ⟨i, hi, rfl, hbel2, hlit, hN1⟩ := hrel
        clear hbA hGA hG
        by_cases hi1 : i < 14
        · obtain ⟨a, hga, hma⟩ : ∃ a, Hid (R14.getD i 0 = a) ∧ a ∈ R14 := ⟨_, Lib.hid rfl, mem_getD hi1⟩
          have hcl : wr.cell? ⟨G, i, none⟩ = some (.int .i64 a) := by simp only [World.cell?, hlit.out]; rw [← hga.out]; exact lit14_get i hi1
          have HM := Lib.hid hma
          have hof := ofK k hk1 hk
          generalize (RD.form k).code.length = cl at hof
          generalize hnb : (RD.form k).nb = nb at *
          go_wp2_with (go_at_call 55; refine (hof _).mono ?_; rintro e w1 ⟨⟨fb, fc, rfl⟩, hb1⟩)
          have hs1 := hb1.size
          have hbB : Below w.heap.size w ((w1.alloc (.cells #[.slice (some ⟨fb, 0, none⟩) cl fc, .bool (RD.form k).a, .bool (RD.form k).b, .int .i64 nb, .bool (RD.form k).md, .int .i64 (RD.form k).x, .int .i64 (RD.form k).y, .bool (RD.form k).ld] 96)).alloc (.cells lit14 3)) := (((hbel2.trans (hb1.mono hbel2.size)).alloc (by have := hbel2.size; omega) _).alloc (by have := hbel2.size; simp; omega) _)
          have hFB : ((w1.alloc (.cells #[.slice (some ⟨fb, 0, none⟩) cl fc, .bool (RD.form k).a, .bool (RD.form k).b, .int .i64 nb, .bool (RD.form k).md, .int .i64 (RD.form k).x, .int .i64 (RD.form k).y, .bool (RD.form k).ld] 96)).alloc (.cells lit14 3)).heap[w1.heap.size]? = some (.cells #[.slice (some ⟨fb, 0, none⟩) cl fc, .bool (RD.form k).a, .bool (RD.form k).b, .int .i64 nb, .bool (RD.form k).md, .int .i64 (RD.form k).x, .int .i64 (RD.form k).y, .bool (RD.form k).ld] 96 (0, 0)) := (Below.heap_alloc _ _ _ (by simp)).trans (heap_alloc_new _ _)
          have hlit2 : w1.heap[G]? = some (.cells lit14 3 (0, 0)) := (hb1.block G (block_lt hlit.out)).trans hlit.out
          have hGl := block_lt hlit2
          have hGB : ((w1.alloc (.cells #[.slice (some ⟨fb, 0, none⟩) cl fc, .bool (RD.form k).a, .bool (RD.form k).b, .int .i64 nb, .bool (RD.form k).md, .int .i64 (RD.form k).x, .int .i64 (RD.form k).y, .bool (RD.form k).ld] 96)).alloc (.cells lit14 3)).heap[G]? = some (.cells lit14 3 (0, 0)) := (Below.heap_alloc _ _ _ (by simp; omega)).trans ((Below.heap_alloc _ _ _ hGl).trans hlit2)
          have hwG : w.heap.size ≤ w1.heap.size := by have := hbel2.size; omega
          go_loopw [31] (fun s wq => ∃ j : Nat, j ≤ 14 ∧ s = .int .i64 j ∧ Below w.heap.size w wq ∧ Hid (wq.heap[w1.heap.size]? = some (.cells #[.slice (some ⟨fb, 0, none⟩) cl fc, .bool (RD.form k).a, .bool (RD.form k).b, .int .i64 nb, .bool (RD.form k).md, .int .i64 (RD.form k).x, .int .i64 (RD.form k).y, .bool (RD.form k).ld] 96 (0, 0))) ∧ Hid (wq.heap[w1.heap.size + 1]? = some (.cells lit14 3 (0, 0))) ∧ Hid (wq.heap[G]? = some (.cells lit14 3 (0, 0))) ∧ Hid (N2 k a j x)) (fun s _ => 14 - (intOf s).toNat)
          case atStart => exact ⟨0, by omega, rfl, hbB, Lib.hid hFB, Lib.hid (alloc2_new _ _ _), Lib.hid hGB, Lib.hid fun i' h => by omega⟩
          case round =>
            obtain ⟨j, hj, rfl, hbel3, hF, hlit3, hlit4, hN2⟩ := hrel
            clear hbB hFB hGB hlit2 hlit hb1 hs1 hcl hof
            by_cases hj1 : j < 14
            · obtain ⟨c, hgc, hmc⟩ : ∃ c, Hid (R14.getD j 0 = c) ∧ c ∈ R14 := ⟨_, Lib.hid rfl, mem_getD hj1⟩
              have hcl : wr.cell? ⟨w1.heap.size + 1, j, none⟩ = some (.int .i64 c) := by simp only [World.cell?, hlit3.out]; rw [← hgc.out]; exact lit14_get j hj1
              have hlt1 := block_lt hF.out
              have hlt2 := block_lt hlit3.out
              cases hfa : (RD.form k).a <;> cases hfb : (RD.form k).b
              · have hA : RD.okA (RD.form k).a 0 = true := by rw [hfa]; exact rfl
                have hC : RD.okA (RD.form k).b 0 = true := by rw [hfb]; exact rfl
                have hcnd : cnd k a c x = RD.begins x (RD.head k 0 0) := by unfold cnd sel; rw [hfa, hfb]; rfl
                have hv : RD.valid k 0 0 0 = true := (RD.valid_iff _ _ _ _).2 ⟨hA, hC, ok0 k⟩
                have hhb := head_bytes hk1 hk hA hC
                have hlen := RD.enc_length k 0 0 0
                have hpos := RD.head_pos k 0 0
                have hle7 := RD.head_le k 0 0
                have HG := Lib.hid (fun j (hj : j < (RD.head k 0 0).length) => enc_getD k 0 0 j hj)
                have henc := encV12 k hk1 hk 0 0 0 hv
                rw [hfa, hfb] at hF
                have f1 : wr.cell? ⟨w1.heap.size, 1, none⟩ = some (.bool false) := by simp [World.cell?, hF.out]
                have f2 : wr.cell? ⟨w1.heap.size, 2, none⟩ = some (.bool false) := by simp [World.cell?, hF.out]
                have f3 : wr.cell? ⟨w1.heap.size, 3, none⟩ = some (.int .i64 nb) := by simp [World.cell?, hF.out]
                have HE := Lib.hid henc; clear henc
                have HHB := Lib.hid hhb; clear hhb
                have HC := Lib.hid hcnd; clear hcnd
                have HA := Lib.hid (And.intro hfa hfb); clear hfa hfb hA hC hv
                generalize hhd : RD.head k 0 0 = hd at *
                generalize hbs : RD.enc k 0 0 0 = bs at *
                have HD := Lib.hid (And.intro hhd hbs); clear hhd hbs
                go_wp2_with (go_at_call 56; refine (HE.out _).mono ?_; rintro e w2 ⟨v, rfl, ⟨blk, base, cp, hvv, q1, q2, q3, q4⟩, hb2⟩; rw [hlen] at hvv; subst hvv; have hbW : Below wr.heap.size wr w2 := ((Below.refl _ _).alloc (Nat.le_refl _) _).trans (hb2.mono (by simp)); have hF2 : w2.heap[w1.heap.size]? = _ := (hbW.block _ hlt1).trans hF.out; have e3 : w2.cell? ⟨w1.heap.size, 3, none⟩ = some (.int .i64 nb) := (by simp [World.cell?, hF2]); have HF2' := Lib.hid ((hbW.block _ hlt1).trans hF.out); clear hF2; have HQ := Lib.hid q4; clear q4 f1 f2 f3 hcl)
                have hR2 : Row w2 bb oo x := (HR.out.mono hbel3).mono (hbW.mono (Nat.le_refl _))
                have hnc : hd.length ≤ cp := by omega
                have hcells : ∀ j, j < hd.length → w2.cell? ⟨blk, base + j, none⟩ = some (.int .u8 (hd.getD j 0)) := fun j hj => by rw [← HG.out j hj]; exact HQ.out j (by omega)
                have HS := Lib.hid hcells; clear hcells
                have H2 := Lib.hid hR2; clear hR2
                by_cases hp : x <+: hd
                · have C40 := fun n => pre40 blk base cp bb oo cap hd x (w2.drewN n) HHB.out HX.out hnc HS.out H2.out.2
                  rw [decide_eq_true hp] at C40
                  have HP := Lib.hid hp; clear hp
                  have H40 := Lib.hid C40; clear C40
                  go_quiet ((go_at_call 57; exact Calls.quiet_of_same (H40.out _)))
                  go_wp2_with fail
                  go_ret
                  refine ⟨⟨true, rfl, fun _ => start_of hk1 hk HM.out hmc ?_, fun _ => rfl⟩, below_drewN (hbel3.trans (hbW.mono hbel3.size)) _⟩
                  rw [HC.out, begins_cases, decide_eq_true HP.out]; rfl
                · have C40 := fun n => pre40 blk base cp bb oo cap hd x (w2.drewN n) HHB.out HX.out hnc HS.out H2.out.2
                  rw [decide_eq_false hp] at C40
                  have HP := Lib.hid hp; clear hp
                  have H40 := Lib.hid C40; clear C40
                  by_cases hn : hd.length < x.length
                  · have hn1 : decide ((hd.length : Int) < (x.length : Int)) = true := by simp; omega
                    have hcap2 : hd.length ≤ cap := by omega
                    have htl : (x.take hd.length).length = hd.length := by simp; omega
                    have C41 := fun n => eq41 blk base cp bb oo cap hd (x.take hd.length) (w2.drewN n) HHB.out (fun v hv => HX.out v (List.mem_of_mem_take hv)) HS.out (fun j hj => by
                      have hj2 : j < hd.length := by rw [htl] at hj; exact hj
                      have e : (x.take hd.length).getD j 0 = x.getD j 0 := by simp only [List.getD, List.getElem?_take, if_pos hj2]
                      rw [e]; exact H2.out.2 j (by omega))
                    simp only [htl] at C41
                    clear htl
                    by_cases he : hd = x.take hd.length
                    · rw [decide_eq_true he] at C41
                      have HEQ := Lib.hid he; clear he
                      have H41 := Lib.hid C41; clear C41
                      go_quiet ((first | (go_at_call 57; exact Calls.quiet_of_same (H40.out _)) | (go_at_call 58; exact Calls.quiet_of_same (H41.out _))))
                      go_wp2_with fail
                      go_ret
                      refine ⟨⟨true, rfl, fun _ => start_of hk1 hk HM.out hmc ?_, fun _ => rfl⟩, below_drewN (hbel3.trans (hbW.mono hbel3.size)) _⟩
                      rw [HC.out, begins_cases, decide_eq_true hn, decide_eq_true HEQ.out]; simp
                    · rw [decide_eq_false he] at C41
                      have HEQ := Lib.hid he; clear he
                      have H41 := Lib.hid C41; clear C41
                      go_quiet ((first | (go_at_call 57; exact Calls.quiet_of_same (H40.out _)) | (go_at_call 58; exact Calls.quiet_of_same (H41.out _))))
                      go_wp2_with fail
                      have hno : cnd k a c x = false := by rw [HC.out, begins_cases, decide_eq_false HP.out, decide_eq_false HEQ.out]; simp
                      have hN2' := Lib.hid (n2_succ hN2.out (hgc.out.symm ▸ hno))
                      go_roundw
                      case rel => exact ⟨j + 1, by omega, by go_num, below_drewN (hbel3.trans (hbW.mono hbel3.size)) _, HF2', Lib.hid ((hbW.block _ hlt2).trans hlit3.out), Lib.hid ((hbW.block _ (block_lt hlit4.out)).trans hlit4.out), hN2'⟩
                      case measure => simp [intOf]; omega
                  · have hn1 : decide ((hd.length : Int) < (x.length : Int)) = false := by simp; omega
                    go_quiet ((go_at_call 57; exact Calls.quiet_of_same (H40.out _)))
                    go_wp2_with fail
                    have hno : cnd k a c x = false := by rw [HC.out, begins_cases, decide_eq_false HP.out, decide_eq_false hn]; rfl
                    have hN2' := Lib.hid (n2_succ hN2.out (hgc.out.symm ▸ hno))
                    go_roundw
                    case rel => exact ⟨j + 1, by omega, by go_num, below_drewN (hbel3.trans (hbW.mono hbel3.size)) _, HF2', Lib.hid ((hbW.block _ hlt2).trans hlit3.out), Lib.hid ((hbW.block _ (block_lt hlit4.out)).trans hlit4.out), hN2'⟩
                    case measure => simp [intOf]; omega
              · have hA : RD.okA (RD.form k).a 0 = true := by rw [hfa]; exact rfl
                have hC : RD.okA (RD.form k).b c = true := by rw [hfb]; exact (RD.mem_regsOf true c).1 hmc
                have hcnd : cnd k a c x = RD.begins x (RD.head k 0 c) := by unfold cnd sel; rw [hfa, hfb]; rfl
                have hv : RD.valid k 0 c 0 = true := (RD.valid_iff _ _ _ _).2 ⟨hA, hC, ok0 k⟩
                have hhb := head_bytes hk1 hk hA hC
                have hlen := RD.enc_length k 0 c 0
                have hpos := RD.head_pos k 0 c
                have hle7 := RD.head_le k 0 c
                have HG := Lib.hid (fun j (hj : j < (RD.head k 0 c).length) => enc_getD k 0 c j hj)
                have henc := encV12 k hk1 hk 0 c 0 hv
                rw [hfa, hfb] at hF
                have f1 : wr.cell? ⟨w1.heap.size, 1, none⟩ = some (.bool false) := by simp [World.cell?, hF.out]
                have f2 : wr.cell? ⟨w1.heap.size, 2, none⟩ = some (.bool true) := by simp [World.cell?, hF.out]
                have f3 : wr.cell? ⟨w1.heap.size, 3, none⟩ = some (.int .i64 nb) := by simp [World.cell?, hF.out]
                have HE := Lib.hid henc; clear henc
                have HHB := Lib.hid hhb; clear hhb
                have HC := Lib.hid hcnd; clear hcnd
                have HA := Lib.hid (And.intro hfa hfb); clear hfa hfb hA hC hv
                generalize hhd : RD.head k 0 c = hd at *
                generalize hbs : RD.enc k 0 c 0 = bs at *
                have HD := Lib.hid (And.intro hhd hbs); clear hhd hbs
                go_wp2_with (go_at_call 56; refine (HE.out _).mono ?_; rintro e w2 ⟨v, rfl, ⟨blk, base, cp, hvv, q1, q2, q3, q4⟩, hb2⟩; rw [hlen] at hvv; subst hvv; have hbW : Below wr.heap.size wr w2 := ((Below.refl _ _).alloc (Nat.le_refl _) _).trans (hb2.mono (by simp)); have hF2 : w2.heap[w1.heap.size]? = _ := (hbW.block _ hlt1).trans hF.out; have e3 : w2.cell? ⟨w1.heap.size, 3, none⟩ = some (.int .i64 nb) := (by simp [World.cell?, hF2]); have HF2' := Lib.hid ((hbW.block _ hlt1).trans hF.out); clear hF2; have HQ := Lib.hid q4; clear q4 f1 f2 f3 hcl)
                have hR2 : Row w2 bb oo x := (HR.out.mono hbel3).mono (hbW.mono (Nat.le_refl _))
                have hnc : hd.length ≤ cp := by omega
                have hcells : ∀ j, j < hd.length → w2.cell? ⟨blk, base + j, none⟩ = some (.int .u8 (hd.getD j 0)) := fun j hj => by rw [← HG.out j hj]; exact HQ.out j (by omega)
                have HS := Lib.hid hcells; clear hcells
                have H2 := Lib.hid hR2; clear hR2
                by_cases hp : x <+: hd
                · have C40 := fun n => pre40 blk base cp bb oo cap hd x (w2.drewN n) HHB.out HX.out hnc HS.out H2.out.2
                  rw [decide_eq_true hp] at C40
                  have HP := Lib.hid hp; clear hp
                  have H40 := Lib.hid C40; clear C40
                  go_quiet ((go_at_call 57; exact Calls.quiet_of_same (H40.out _)))
                  go_wp2_with fail
                  go_ret
                  refine ⟨⟨true, rfl, fun _ => start_of hk1 hk HM.out hmc ?_, fun _ => rfl⟩, below_drewN (hbel3.trans (hbW.mono hbel3.size)) _⟩
                  rw [HC.out, begins_cases, decide_eq_true HP.out]; rfl
                · have C40 := fun n => pre40 blk base cp bb oo cap hd x (w2.drewN n) HHB.out HX.out hnc HS.out H2.out.2
                  rw [decide_eq_false hp] at C40
                  have HP := Lib.hid hp; clear hp
                  have H40 := Lib.hid C40; clear C40
                  by_cases hn : hd.length < x.length
                  · have hn1 : decide ((hd.length : Int) < (x.length : Int)) = true := by simp; omega
                    have hcap2 : hd.length ≤ cap := by omega
                    have htl : (x.take hd.length).length = hd.length := by simp; omega
                    have C41 := fun n => eq41 blk base cp bb oo cap hd (x.take hd.length) (w2.drewN n) HHB.out (fun v hv => HX.out v (List.mem_of_mem_take hv)) HS.out (fun j hj => by
                      have hj2 : j < hd.length := by rw [htl] at hj; exact hj
                      have e : (x.take hd.length).getD j 0 = x.getD j 0 := by simp only [List.getD, List.getElem?_take, if_pos hj2]
                      rw [e]; exact H2.out.2 j (by omega))
                    simp only [htl] at C41
                    clear htl
                    by_cases he : hd = x.take hd.length
                    · rw [decide_eq_true he] at C41
                      have HEQ := Lib.hid he; clear he
                      have H41 := Lib.hid C41; clear C41
                      go_quiet ((first | (go_at_call 57; exact Calls.quiet_of_same (H40.out _)) | (go_at_call 58; exact Calls.quiet_of_same (H41.out _))))
                      go_wp2_with fail
                      go_ret
                      refine ⟨⟨true, rfl, fun _ => start_of hk1 hk HM.out hmc ?_, fun _ => rfl⟩, below_drewN (hbel3.trans (hbW.mono hbel3.size)) _⟩
                      rw [HC.out, begins_cases, decide_eq_true hn, decide_eq_true HEQ.out]; simp
                    · rw [decide_eq_false he] at C41
                      have HEQ := Lib.hid he; clear he
                      have H41 := Lib.hid C41; clear C41
                      go_quiet ((first | (go_at_call 57; exact Calls.quiet_of_same (H40.out _)) | (go_at_call 58; exact Calls.quiet_of_same (H41.out _))))
                      go_wp2_with fail
                      have hno : cnd k a c x = false := by rw [HC.out, begins_cases, decide_eq_false HP.out, decide_eq_false HEQ.out]; simp
                      have hN2' := Lib.hid (n2_succ hN2.out (hgc.out.symm ▸ hno))
                      go_roundw
                      case rel => exact ⟨j + 1, by omega, by go_num, below_drewN (hbel3.trans (hbW.mono hbel3.size)) _, HF2', Lib.hid ((hbW.block _ hlt2).trans hlit3.out), Lib.hid ((hbW.block _ (block_lt hlit4.out)).trans hlit4.out), hN2'⟩
                      case measure => simp [intOf]; omega
                  · have hn1 : decide ((hd.length : Int) < (x.length : Int)) = false := by simp; omega
                    go_quiet ((go_at_call 57; exact Calls.quiet_of_same (H40.out _)))
                    go_wp2_with fail
                    have hno : cnd k a c x = false := by rw [HC.out, begins_cases, decide_eq_false HP.out, decide_eq_false hn]; rfl
                    have hN2' := Lib.hid (n2_succ hN2.out (hgc.out.symm ▸ hno))
                    go_roundw
                    case rel => exact ⟨j + 1, by omega, by go_num, below_drewN (hbel3.trans (hbW.mono hbel3.size)) _, HF2', Lib.hid ((hbW.block _ hlt2).trans hlit3.out), Lib.hid ((hbW.block _ (block_lt hlit4.out)).trans hlit4.out), hN2'⟩
                    case measure => simp [intOf]; omega
              · have hA : RD.okA (RD.form k).a a = true := by rw [hfa]; exact (RD.mem_regsOf true a).1 hma
                have hC : RD.okA (RD.form k).b 0 = true := by rw [hfb]; exact rfl
                have hcnd : cnd k a c x = RD.begins x (RD.head k a 0) := by unfold cnd sel; rw [hfa, hfb]; rfl
                have hv : RD.valid k a 0 0 = true := (RD.valid_iff _ _ _ _).2 ⟨hA, hC, ok0 k⟩
                have hhb := head_bytes hk1 hk hA hC
                have hlen := RD.enc_length k a 0 0
                have hpos := RD.head_pos k a 0
                have hle7 := RD.head_le k a 0
                have HG := Lib.hid (fun j (hj : j < (RD.head k a 0).length) => enc_getD k a 0 j hj)
                have henc := encV12 k hk1 hk a 0 0 hv
                rw [hfa, hfb] at hF
                have f1 : wr.cell? ⟨w1.heap.size, 1, none⟩ = some (.bool true) := by simp [World.cell?, hF.out]
                have f2 : wr.cell? ⟨w1.heap.size, 2, none⟩ = some (.bool false) := by simp [World.cell?, hF.out]
                have f3 : wr.cell? ⟨w1.heap.size, 3, none⟩ = some (.int .i64 nb) := by simp [World.cell?, hF.out]
                have HE := Lib.hid henc; clear henc
                have HHB := Lib.hid hhb; clear hhb
                have HC := Lib.hid hcnd; clear hcnd
                have HA := Lib.hid (And.intro hfa hfb); clear hfa hfb hA hC hv
                generalize hhd : RD.head k a 0 = hd at *
                generalize hbs : RD.enc k a 0 0 = bs at *
                have HD := Lib.hid (And.intro hhd hbs); clear hhd hbs
                go_wp2_with (go_at_call 56; refine (HE.out _).mono ?_; rintro e w2 ⟨v, rfl, ⟨blk, base, cp, hvv, q1, q2, q3, q4⟩, hb2⟩; rw [hlen] at hvv; subst hvv; have hbW : Below wr.heap.size wr w2 := ((Below.refl _ _).alloc (Nat.le_refl _) _).trans (hb2.mono (by simp)); have hF2 : w2.heap[w1.heap.size]? = _ := (hbW.block _ hlt1).trans hF.out; have e3 : w2.cell? ⟨w1.heap.size, 3, none⟩ = some (.int .i64 nb) := (by simp [World.cell?, hF2]); have HF2' := Lib.hid ((hbW.block _ hlt1).trans hF.out); clear hF2; have HQ := Lib.hid q4; clear q4 f1 f2 f3 hcl)
                have hR2 : Row w2 bb oo x := (HR.out.mono hbel3).mono (hbW.mono (Nat.le_refl _))
                have hnc : hd.length ≤ cp := by omega
                have hcells : ∀ j, j < hd.length → w2.cell? ⟨blk, base + j, none⟩ = some (.int .u8 (hd.getD j 0)) := fun j hj => by rw [← HG.out j hj]; exact HQ.out j (by omega)
                have HS := Lib.hid hcells; clear hcells
                have H2 := Lib.hid hR2; clear hR2
                by_cases hp : x <+: hd
                · have C40 := fun n => pre40 blk base cp bb oo cap hd x (w2.drewN n) HHB.out HX.out hnc HS.out H2.out.2
                  rw [decide_eq_true hp] at C40
                  have HP := Lib.hid hp; clear hp
                  have H40 := Lib.hid C40; clear C40
                  go_quiet ((go_at_call 57; exact Calls.quiet_of_same (H40.out _)))
                  go_wp2_with fail
                  go_ret
                  refine ⟨⟨true, rfl, fun _ => start_of hk1 hk HM.out hmc ?_, fun _ => rfl⟩, below_drewN (hbel3.trans (hbW.mono hbel3.size)) _⟩
                  rw [HC.out, begins_cases, decide_eq_true HP.out]; rfl
                · have C40 := fun n => pre40 blk base cp bb oo cap hd x (w2.drewN n) HHB.out HX.out hnc HS.out H2.out.2
                  rw [decide_eq_false hp] at C40
                  have HP := Lib.hid hp; clear hp
                  have H40 := Lib.hid C40; clear C40
                  by_cases hn : hd.length < x.length
                  · have hn1 : decide ((hd.length : Int) < (x.length : Int)) = true := by simp; omega
                    have hcap2 : hd.length ≤ cap := by omega
                    have htl : (x.take hd.length).length = hd.length := by simp; omega
                    have C41 := fun n => eq41 blk base cp bb oo cap hd (x.take hd.length) (w2.drewN n) HHB.out (fun v hv => HX.out v (List.mem_of_mem_take hv)) HS.out (fun j hj => by
                      have hj2 : j < hd.length := by rw [htl] at hj; exact hj
                      have e : (x.take hd.length).getD j 0 = x.getD j 0 := by simp only [List.getD, List.getElem?_take, if_pos hj2]
                      rw [e]; exact H2.out.2 j (by omega))
                    simp only [htl] at C41
                    clear htl
                    by_cases he : hd = x.take hd.length
                    · rw [decide_eq_true he] at C41
                      have HEQ := Lib.hid he; clear he
                      have H41 := Lib.hid C41; clear C41
                      go_quiet ((first | (go_at_call 57; exact Calls.quiet_of_same (H40.out _)) | (go_at_call 58; exact Calls.quiet_of_same (H41.out _))))
                      go_wp2_with fail
                      go_ret
                      refine ⟨⟨true, rfl, fun _ => start_of hk1 hk HM.out hmc ?_, fun _ => rfl⟩, below_drewN (hbel3.trans (hbW.mono hbel3.size)) _⟩
                      rw [HC.out, begins_cases, decide_eq_true hn, decide_eq_true HEQ.out]; simp
                    · rw [decide_eq_false he] at C41
                      have HEQ := Lib.hid he; clear he
                      have H41 := Lib.hid C41; clear C41
                      go_quiet ((first | (go_at_call 57; exact Calls.quiet_of_same (H40.out _)) | (go_at_call 58; exact Calls.quiet_of_same (H41.out _))))
                      go_wp2_with fail
                      have hno : cnd k a c x = false := by rw [HC.out, begins_cases, decide_eq_false HP.out, decide_eq_false HEQ.out]; simp
                      have hN2' := Lib.hid (n2_succ hN2.out (hgc.out.symm ▸ hno))
                      go_roundw
                      case rel => exact ⟨j + 1, by omega, by go_num, below_drewN (hbel3.trans (hbW.mono hbel3.size)) _, HF2', Lib.hid ((hbW.block _ hlt2).trans hlit3.out), Lib.hid ((hbW.block _ (block_lt hlit4.out)).trans hlit4.out), hN2'⟩
                      case measure => simp [intOf]; omega
                  · have hn1 : decide ((hd.length : Int) < (x.length : Int)) = false := by simp; omega
                    go_quiet ((go_at_call 57; exact Calls.quiet_of_same (H40.out _)))
                    go_wp2_with fail
                    have hno : cnd k a c x = false := by rw [HC.out, begins_cases, decide_eq_false HP.out, decide_eq_false hn]; rfl
                    have hN2' := Lib.hid (n2_succ hN2.out (hgc.out.symm ▸ hno))
                    go_roundw
                    case rel => exact ⟨j + 1, by omega, by go_num, below_drewN (hbel3.trans (hbW.mono hbel3.size)) _, HF2', Lib.hid ((hbW.block _ hlt2).trans hlit3.out), Lib.hid ((hbW.block _ (block_lt hlit4.out)).trans hlit4.out), hN2'⟩
                    case measure => simp [intOf]; omega
              · have hA : RD.okA (RD.form k).a a = true := by rw [hfa]; exact (RD.mem_regsOf true a).1 hma
                have hC : RD.okA (RD.form k).b c = true := by rw [hfb]; exact (RD.mem_regsOf true c).1 hmc
                have hcnd : cnd k a c x = RD.begins x (RD.head k a c) := by unfold cnd sel; rw [hfa, hfb]; rfl
                have hv : RD.valid k a c 0 = true := (RD.valid_iff _ _ _ _).2 ⟨hA, hC, ok0 k⟩
                have hhb := head_bytes hk1 hk hA hC
                have hlen := RD.enc_length k a c 0
                have hpos := RD.head_pos k a c
                have hle7 := RD.head_le k a c
                have HG := Lib.hid (fun j (hj : j < (RD.head k a c).length) => enc_getD k a c j hj)
                have henc := encV12 k hk1 hk a c 0 hv
                rw [hfa, hfb] at hF
                have f1 : wr.cell? ⟨w1.heap.size, 1, none⟩ = some (.bool true) := by simp [World.cell?, hF.out]
                have f2 : wr.cell? ⟨w1.heap.size, 2, none⟩ = some (.bool true) := by simp [World.cell?, hF.out]
                have f3 : wr.cell? ⟨w1.heap.size, 3, none⟩ = some (.int .i64 nb) := by simp [World.cell?, hF.out]
                have HE := Lib.hid henc; clear henc
                have HHB := Lib.hid hhb; clear hhb
                have HC := Lib.hid hcnd; clear hcnd
                have HA := Lib.hid (And.intro hfa hfb); clear hfa hfb hA hC hv
                generalize hhd : RD.head k a c = hd at *
                generalize hbs : RD.enc k a c 0 = bs at *
                have HD := Lib.hid (And.intro hhd hbs); clear hhd hbs
                go_wp2_with (go_at_call 56; refine (HE.out _).mono ?_; rintro e w2 ⟨v, rfl, ⟨blk, base, cp, hvv, q1, q2, q3, q4⟩, hb2⟩; rw [hlen] at hvv; subst hvv; have hbW : Below wr.heap.size wr w2 := ((Below.refl _ _).alloc (Nat.le_refl _) _).trans (hb2.mono (by simp)); have hF2 : w2.heap[w1.heap.size]? = _ := (hbW.block _ hlt1).trans hF.out; have e3 : w2.cell? ⟨w1.heap.size, 3, none⟩ = some (.int .i64 nb) := (by simp [World.cell?, hF2]); have HF2' := Lib.hid ((hbW.block _ hlt1).trans hF.out); clear hF2; have HQ := Lib.hid q4; clear q4 f1 f2 f3 hcl)
                have hR2 : Row w2 bb oo x := (HR.out.mono hbel3).mono (hbW.mono (Nat.le_refl _))
                have hnc : hd.length ≤ cp := by omega
                have hcells : ∀ j, j < hd.length → w2.cell? ⟨blk, base + j, none⟩ = some (.int .u8 (hd.getD j 0)) := fun j hj => by rw [← HG.out j hj]; exact HQ.out j (by omega)
                have HS := Lib.hid hcells; clear hcells
                have H2 := Lib.hid hR2; clear hR2
                by_cases hp : x <+: hd
                · have C40 := fun n => pre40 blk base cp bb oo cap hd x (w2.drewN n) HHB.out HX.out hnc HS.out H2.out.2
                  rw [decide_eq_true hp] at C40
                  have HP := Lib.hid hp; clear hp
                  have H40 := Lib.hid C40; clear C40
                  go_quiet ((go_at_call 57; exact Calls.quiet_of_same (H40.out _)))
                  go_wp2_with fail
                  go_ret
                  refine ⟨⟨true, rfl, fun _ => start_of hk1 hk HM.out hmc ?_, fun _ => rfl⟩, below_drewN (hbel3.trans (hbW.mono hbel3.size)) _⟩
                  rw [HC.out, begins_cases, decide_eq_true HP.out]; rfl
                · have C40 := fun n => pre40 blk base cp bb oo cap hd x (w2.drewN n) HHB.out HX.out hnc HS.out H2.out.2
                  rw [decide_eq_false hp] at C40
                  have HP := Lib.hid hp; clear hp
                  have H40 := Lib.hid C40; clear C40
                  by_cases hn : hd.length < x.length
                  · have hn1 : decide ((hd.length : Int) < (x.length : Int)) = true := by simp; omega
                    have hcap2 : hd.length ≤ cap := by omega
                    have htl : (x.take hd.length).length = hd.length := by simp; omega
                    have C41 := fun n => eq41 blk base cp bb oo cap hd (x.take hd.length) (w2.drewN n) HHB.out (fun v hv => HX.out v (List.mem_of_mem_take hv)) HS.out (fun j hj => by
                      have hj2 : j < hd.length := by rw [htl] at hj; exact hj
                      have e : (x.take hd.length).getD j 0 = x.getD j 0 := by simp only [List.getD, List.getElem?_take, if_pos hj2]
                      rw [e]; exact H2.out.2 j (by omega))
                    simp only [htl] at C41
                    clear htl
                    by_cases he : hd = x.take hd.length
                    · rw [decide_eq_true he] at C41
                      have HEQ := Lib.hid he; clear he
                      have H41 := Lib.hid C41; clear C41
                      go_quiet ((first | (go_at_call 57; exact Calls.quiet_of_same (H40.out _)) | (go_at_call 58; exact Calls.quiet_of_same (H41.out _))))
                      go_wp2_with fail
                      go_ret
                      refine ⟨⟨true, rfl, fun _ => start_of hk1 hk HM.out hmc ?_, fun _ => rfl⟩, below_drewN (hbel3.trans (hbW.mono hbel3.size)) _⟩
                      rw [HC.out, begins_cases, decide_eq_true hn, decide_eq_true HEQ.out]; simp
                    · rw [decide_eq_false he] at C41
                      have HEQ := Lib.hid he; clear he
                      have H41 := Lib.hid C41; clear C41
                      go_quiet ((first | (go_at_call 57; exact Calls.quiet_of_same (H40.out _)) | (go_at_call 58; exact Calls.quiet_of_same (H41.out _))))
                      go_wp2_with fail
                      have hno : cnd k a c x = false := by rw [HC.out, begins_cases, decide_eq_false HP.out, decide_eq_false HEQ.out]; simp
                      have hN2' := Lib.hid (n2_succ hN2.out (hgc.out.symm ▸ hno))
                      go_roundw
                      case rel => exact ⟨j + 1, by omega, by go_num, below_drewN (hbel3.trans (hbW.mono hbel3.size)) _, HF2', Lib.hid ((hbW.block _ hlt2).trans hlit3.out), Lib.hid ((hbW.block _ (block_lt hlit4.out)).trans hlit4.out), hN2'⟩
                      case measure => simp [intOf]; omega
                  · have hn1 : decide ((hd.length : Int) < (x.length : Int)) = false := by simp; omega
                    go_quiet ((go_at_call 57; exact Calls.quiet_of_same (H40.out _)))
                    go_wp2_with fail
                    have hno : cnd k a c x = false := by rw [HC.out, begins_cases, decide_eq_false HP.out, decide_eq_false hn]; rfl
                    have hN2' := Lib.hid (n2_succ hN2.out (hgc.out.symm ▸ hno))
                    go_roundw
                    case rel => exact ⟨j + 1, by omega, by go_num, below_drewN (hbel3.trans (hbW.mono hbel3.size)) _, HF2', Lib.hid ((hbW.block _ hlt2).trans hlit3.out), Lib.hid ((hbW.block _ (block_lt hlit4.out)).trans hlit4.out), hN2'⟩
                    case measure => simp [intOf]; omega
            · obtain rfl : j = 14 := by omega
              go_wp2_with fail
              have hN1' := Lib.hid (n1_succ hN1.out (hga.out.symm ▸ hN2.out))
              go_roundw
              case rel => exact ⟨i + 1, by omega, by go_num, hbel3, hlit4, hN1'⟩
              case measure => simp [intOf]; omega
        · obtain rfl : i = 14 := by omega
          go_wp2_with fail
          have hN0' := Lib.hid (n0_succ hN0.out hN1.out)
          go_roundw
          case rel => exact ⟨k + 1, by omega, by omega, by go_num, hbel2, hN0'⟩
          case measure => simp [intOf]; omega
    · obtain rfl : k = 27 := by omega
      go_wp2_with fail
      go_ret
      exact ⟨⟨false, rfl, fun h => (by cases h), fun h => absurd h (no_start hN0.out)⟩, hbel⟩
end Go.Proofs.Ytpcocfdgcihpdaa.rdw
