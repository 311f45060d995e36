/-
  caraferef19: begins, takes, reg, Decode: what they answer.
-/
import Derived.Test.YtpcocfdgcihpdaaSmKit
import Derived.StillTailTactics
set_option maxHeartbeats 64000000
set_option maxRecDepth 1000000
set_option linter.unusedVariables false
set_option linter.unusedSimpArgs false
namespace Go.Proofs.Ytpcocfdgcihpdaa.rdw
open Go Go.RowKit
open Go.Proofs.Ytpcocfdgcihpdaa Go.Proofs.Ytpcocfdgcihpdaa.wr
set_option linter.unusedVariables false
set_option linter.unusedSimpArgs false
theorem drewN2 (w : World) (j n : Nat) : (w.drewN j).drewN n = w.drewN (j + n) := by simp [World.drewN, Nat.add_assoc]
theorem begins_all (x y : List Int) : RD.begins x y = true ↔ ∀ j, j < x.length → j < y.length → x.getD j 0 = y.getD j 0 := by
  induction x generalizing y with
  | nil => simp [RD.begins]
  | cons a l ih =>
    cases y with
    | nil => simp [RD.begins]
    | cons b m =>
      simp only [RD.begins, Bool.and_eq_true, decide_eq_true_eq, ih]
      constructor
      · rintro ⟨rfl, h⟩ j h1 h2
        cases j with
        | zero => rfl
        | succ j => simpa using h j (by simpa using h1) (by simpa using h2)
      · intro h
        exact ⟨by simpa using h 0 (by simp) (by simp), fun j h1 h2 => by simpa using h (j + 1) (by simpa using h1) (by simpa using h2)⟩
theorem begins_no {x y : List Int} {i : Nat} (h1 : i < x.length) (h2 : i < y.length) (h : x.getD i 0 ≠ y.getD i 0) : RD.begins x y = false := by
  cases hb : RD.begins x y with
  | false => rfl
  | true => exact absurd ((begins_all x y).1 hb i h1 h2) h
theorem begins34 (bx ox cx by' oy cy : Nat) (x y : List Int) (w : World) (hl : x.length ≤ 9223372036854775806) (hx : Row w bx ox x) (hy : Row w by' oy y) :
    Calls Try.prog 47 #[.slice (some ⟨bx, ox, none⟩) x.length cx, .slice (some ⟨by', oy, none⟩) y.length cy] w fun e w' => e = .returned (.bool (RD.begins x y)) ∧ ∃ j, w' = w.drewN j := by
  have HX := Lib.hid hx; clear hx
  have HY := Lib.hid hy; clear hy
  go_enter Try.func47, Try.ntmps47
  go_wp2
  go_loopw [5] (fun s wq => ∃ i j : Nat, i ≤ x.length ∧ i ≤ y.length ∧ s = .int .i64 i ∧ wq = w.drewN j ∧ Hid (∀ k, k < i → x.getD k 0 = y.getD k 0)) (fun s _ => x.length - (intOf s).toNat)
  case atStart => exact ⟨0, 0, Nat.zero_le _, Nat.zero_le _, rfl, rfl, Lib.hid fun k hk => by omega⟩
  case round =>
    obtain ⟨i, j, hi1, hi2, rfl, rfl, hall⟩ := hrel
    by_cases c1 : i < x.length
    · by_cases c2 : i < y.length
      · obtain ⟨a, ha⟩ : ∃ a, a = x.getD i 0 := ⟨_, rfl⟩
        obtain ⟨b, hb⟩ : ∃ b, b = y.getD i 0 := ⟨_, rfl⟩
        have e1 := HX.out.2 i c1
        have e2 := HY.out.2 i c2
        rw [← ha] at e1
        rw [← hb] at e2
        by_cases hab : a = b
        · have hal : Hid (∀ k, k < i + 1 → x.getD k 0 = y.getD k 0) := Lib.hid fun k hk => by
            rcases Nat.lt_or_ge k i with h | h
            · exact hall.out k h
            · obtain rfl : k = i := by omega
              rw [← ha, ← hb, hab]
          have ht : (a == b) = true := by simp [hab]
          have HA := Lib.hid ha; clear ha
          have HB := Lib.hid hb; clear hb
          clear hab
          go_wp2_with fail
          go_quiet (fail)
          go_wp2_with fail
          go_roundw
          case rel => exact ⟨i + 1, _, by omega, by omega, by go_num, rfl, hal⟩
          case measure => simp [intOf]; omega
        · have hno : RD.begins x y = false := begins_no c1 c2 (by rw [← ha, ← hb]; exact hab)
          have ht : (a == b) = false := by simp [hab]
          have HA := Lib.hid ha; clear ha
          have HB := Lib.hid hb; clear hb
          clear hab
          go_wp2_with fail
          go_quiet (fail)
          go_wp2_with fail
          go_ret
          exact ⟨by rw [hno]; rfl, _, drewN2 _ _ _⟩
      · have hyes : RD.begins x y = true := (begins_all x y).2 fun k h1 h2 => hall.out k (by omega)
        go_wp2_with fail
        go_ret
        exact ⟨by rw [hyes]; rfl, _, rfl⟩
    · have hyes : RD.begins x y = true := (begins_all x y).2 fun k h1 h2 => hall.out k (by omega)
      go_wp2_with fail
      go_ret
      exact ⟨by rw [hyes]; rfl, _, rfl⟩
theorem results28 : Try.f34.results = #[.tmp 2, .tmp 3, .tmp 4] := by kernel_rfl
theorem takes28 (k : Nat) (h1 : 1 ≤ k) (h2 : k ≤ 26) (w : World) : Calls Try.prog 34 #[.int .i64 (k : Int)] w fun e w' => e = .returned (.tuple #[.bool (RD.form k).a, .bool (RD.form k).b, .bool (decide (0 < (RD.form k).nb))]) ∧ w' = w := by
  rcases RD.op_cases k h1 h2 with e | e | e | e | e | e | e | e | e | e | e | e | e | e | e | e | e | e | e | e | e | e | e | e | e | e <;> subst e <;>
    (go_enter Try.func34, Try.ntmps34
     go_wp2_with fail
     refine bodyPost_ret (v := _) (by simp [results, results28, go_sem] <;> decide) rfl ⟨rfl, rfl⟩)
theorem reg29 (r : Nat) (h : r < 16) (w : World) : Calls Try.prog 35 #[.int .i64 (r : Int)] w fun e w' => e = .returned (.bool (RD.reg r)) ∧ w' = w := by
  have : r = 0 ∨ r = 1 ∨ r = 2 ∨ r = 3 ∨ r = 4 ∨ r = 5 ∨ r = 6 ∨ r = 7 ∨ r = 8 ∨ r = 9 ∨ r = 10 ∨ r = 11 ∨ r = 12 ∨ r = 13 ∨ r = 14 ∨ r = 15 := by omega
  rcases this with e | e | e | e | e | e | e | e | e | e | e | e | e | e | e | e <;> subst e <;>
    (go_enter Try.func35, Try.ntmps35
     go_wp2_with fail
     go_ret
     exact ⟨rfl, rfl⟩)
end Go.Proofs.Ytpcocfdgcihpdaa.rdw
namespace Go.Proofs.Ytpcocfdgcihpdaa.rdw
open Go Go.RowKit
open Go.Proofs.Ytpcocfdgcihpdaa Go.Proofs.Ytpcocfdgcihpdaa.wr
def GG (x : List Int) (k r s : Nat) : Bool := RD.okA (RD.form k).a r && (RD.okA (RD.form k).b s && RD.begins x (RD.head k r s))
def QQ (x : List Int) (k r s : Nat) (c : Bool) : Prop := GG x k r s = true → x.length < (RD.head k r s).length + (RD.form k).nb ∧ c = true
def S0 (x : List Int) (k : Nat) (c : Bool) : Prop := (∀ k', 1 ≤ k' → k' < k → ∀ r, r < 16 → ∀ s, s < 16 → QQ x k' r s c) ∧ (c = true → RD.start x)
def S1 (x : List Int) (k r : Nat) (c : Bool) : Prop := ∀ r', r' < r → ∀ s, s < 16 → QQ x k r' s c
def S2 (x : List Int) (k r s : Nat) (c : Bool) : Prop := ∀ s', s' < s → QQ x k r s' c
theorem QQ.up {x : List Int} {k r s : Nat} {c : Bool} (h : QQ x k r s c) : QQ x k r s true := fun g => ⟨(h g).1, rfl⟩
theorem S0.up {x : List Int} {k : Nat} {c : Bool} (h : S0 x k c) (hs : RD.start x) : S0 x k true := ⟨fun k' a b r hr s hs => (h.1 k' a b r hr s hs).up, fun _ => hs⟩
theorem S1.up {x : List Int} {k r : Nat} {c : Bool} (h : S1 x k r c) : S1 x k r true := fun r' a s b => (h r' a s b).up
theorem S2.up {x : List Int} {k r s : Nat} {c : Bool} (h : S2 x k r s c) : S2 x k r s true := fun s' a => (h s' a).up
theorem S2.succ {x : List Int} {k r s : Nat} {c : Bool} (h : S2 x k r s c) (h1 : QQ x k r s c) : S2 x k r (s + 1) c := by
  intro s' hs
  rcases Nat.lt_or_ge s' s with h2 | h2
  · exact h s' h2
  · obtain rfl : s' = s := by omega
    exact h1
theorem S1.succ {x : List Int} {k r : Nat} {c : Bool} (h : S1 x k r c) (h1 : S2 x k r 16 c) : S1 x k (r + 1) c := by
  intro r' hr s hs
  rcases Nat.lt_or_ge r' r with h2 | h2
  · exact h r' h2 s hs
  · obtain rfl : r' = r := by omega
    exact h1 s hs
theorem S0.succ {x : List Int} {k : Nat} {c : Bool} (h : S0 x k c) (h1 : S1 x k 16 c) : S0 x (k + 1) c := by
  refine ⟨fun k' a b r hr s hs => ?_, h.2⟩
  rcases Nat.lt_or_ge k' k with h2 | h2
  · exact h.1 k' a h2 r hr s hs
  · obtain rfl : k' = k := by omega
    exact h1 r hr s hs
theorem okA_range {u : Bool} {n : Int} (h : RD.okA u n = true) : ∃ r : Nat, r < 16 ∧ n = (r : Int) := by
  have hr : 0 ≤ n ∧ n ≤ 15 := by
    revert h; cases u <;> simp [RD.okA, RD.reg_iff] <;> omega
  exact ⟨n.toNat, by omega, by omega⟩
theorem S0.done {x : List Int} {c : Bool} (hx : RD.isBytes x) (h : S0 x 27 c) : RD.Reads x (.err (bif c then 10 else 12)) := by
  have hno : ∀ op, 1 ≤ op → op ≤ 26 → RD.hit op x = false := by
    intro op h1 h2
    cases hh : RD.hit op x with
    | false => rfl
    | true =>
      obtain ⟨q1, q2, q3, q4⟩ := RD.begins_of_at (RD.hit_iff hh)
      obtain ⟨r, hr, er⟩ := okA_range q1
      obtain ⟨s, hs, es⟩ := okA_range q2
      rw [er, es] at q3 q4
      rw [er] at q1
      rw [es] at q2
      have := (h.1 op h1 (by omega) r hr s hs (by unfold GG; rw [q1, q2, q3]; rfl)).1
      omega
  cases c with
  | true => exact .cut hno (h.2 rfl)
  | false =>
    refine .bad hno ?_
    rintro ⟨op, r, s, h1, h2, q1, q2, q3⟩
    obtain ⟨r, hr, rfl⟩ := okA_range q1
    obtain ⟨s, hs, rfl⟩ := okA_range q2
    have := (h.1 op h1 (by omega) r hr s hs (by unfold GG; rw [q1, q2, q3]; rfl)).2
    cases this
abbrev Z30 : Obj := .cells #[.int .i64 0, .int .i64 0, .int .i64 0, .int .i32 0] 63 (0, 0)
theorem combos (k : Nat) (h1 : 1 ≤ k) (h2 : k ≤ 26) : ((RD.form k).a = true ∧ (RD.form k).b = true ∧ (RD.form k).nb = 0 ∧ decide (0 < (RD.form k).nb) = false ∧ ((k : Int) == 26) = false) ∨ ((RD.form k).a = true ∧ (RD.form k).b = false ∧ (RD.form k).nb = 0 ∧ decide (0 < (RD.form k).nb) = false ∧ ((k : Int) == 26) = false) ∨
    ((RD.form k).a = true ∧ (RD.form k).b = false ∧ (RD.form k).nb = 4 ∧ decide (0 < (RD.form k).nb) = true ∧ ((k : Int) == 26) = false) ∨ ((RD.form k).a = false ∧ (RD.form k).b = false ∧ (RD.form k).nb = 0 ∧ decide (0 < (RD.form k).nb) = false ∧ ((k : Int) == 26) = false) ∨
    ((RD.form k).a = false ∧ (RD.form k).b = false ∧ (RD.form k).nb = 4 ∧ decide (0 < (RD.form k).nb) = true ∧ ((k : Int) == 26) = false) ∨ ((RD.form k).a = false ∧ (RD.form k).b = false ∧ (RD.form k).nb = 1 ∧ decide (0 < (RD.form k).nb) = true ∧ ((k : Int) == 26) = true) := by
  rcases RD.op_cases k h1 h2 with e | e | e | e | e | e | e | e | e | e | e | e | e | e | e | e | e | e | e | e | e | e | e | e | e | e <;> subst e <;> decide
theorem reg29' (r : Nat) (h : r < 16) (v : Bool) (hv : RD.reg r = v) (w : World) : Calls Try.prog 35 #[.int .i64 (r : Int)] w fun e w' => e = .returned (.bool v) ∧ w' = w := by
  rw [← hv]; exact reg29 r h w
theorem ok_f {r : Nat} {v : Bool} (h : RD.okA false r = v) : decide ((0 : Int) < (r : Int)) = !v := by
  subst h; simp only [RD.okA, cond_false]; cases r with
  | zero => rfl
  | succ r => simp; omega
theorem ok_t {r : Nat} {v : Bool} (h : RD.okA true r = v) : RD.reg r = v := h
def RefPost (y : List Int) (w : World) (e : Ending) (w' : World) : Prop := (∃ d, RD.Reads y d ∧ e = .returned (decV d)) ∧ Below w.heap.size w w'
theorem fin30 {w : World} {g : Nat} (h : w.heap[g]? = some Z30) (a b c d : Value) : ((((w.setCell ⟨g, 0, none⟩ a).setCell ⟨g, 1, none⟩ b).setCell ⟨g, 2, none⟩ c).setCell ⟨g, 3, none⟩ d).heap[g]? = some (.cells #[a, b, c, d] 63 (0, 0)) := by
  simp only [setCell_self, h, Option.map_some, setObj]; simp
theorem cells30 {w : World} {g : Nat} {a b c d : Value} (h : w.heap[g]? = some (.cells #[a, b, c, d] 63 (0, 0))) : w.cell? ⟨g, 0, none⟩ = some a ∧ w.cell? ⟨g, 1, none⟩ = some b ∧ w.cell? ⟨g, 2, none⟩ = some c ∧ w.cell? ⟨g, 3, none⟩ = some d := by
  simp [World.cell?, h]
theorem froz30 {w : World} {g : Nat} {a b c d : Value} (h : w.heap[g]? = some (.cells #[a, b, c, d] 63 (0, 0))) : w.frozen? ⟨g, 0, none⟩ = false ∧ w.frozen? ⟨g, 1, none⟩ = false ∧ w.frozen? ⟨g, 2, none⟩ = false ∧ w.frozen? ⟨g, 3, none⟩ = false := by
  simp [World.frozen?, h]
theorem results20 : Try.f32.results = #[.cell 4 63, .tmp 5, .tmp 6] := by kernel_rfl
theorem enc13H (k : Nat) (h1 : 1 ≤ k) (h2 : k ≤ 26) (i j : Nat) (hv : RD.valid k i j 0 = true) (hl nb : Nat) (e1 : (RD.head k i j).length = hl) (e2 : (RD.form k).nb = nb) (w : World) :
    Calls Try.prog 27 #[.agg #[.int .i64 (k : Int), .int .i64 (i : Int), .int .i64 (j : Int), .int .i32 0]] w fun e w' =>
      ∃ blk base cp : Nat, e = .returned (.tuple #[.slice (some ⟨blk, base, none⟩) (hl + nb) cp, .int .i64 0]) ∧ hl + nb ≤ cp ∧ Hid (Row w' blk base (RD.head k i j)) ∧ Below w.heap.size w w' := by
  refine (encV13 k h1 h2 i j 0 hv w).mono fun e w' h => ?_
  obtain ⟨v, rfl, ⟨blk, base, cp, rfl, q1, q2, q3, q4⟩, hb⟩ := h
  have hel : (RD.enc k i j 0).length = hl + nb := by rw [RD.enc_length, e1, e2]
  rw [hel] at q3 q4
  refine ⟨blk, base, cp, by rw [hel], q3, Lib.hid ⟨q2, fun t ht => ?_⟩, hb⟩
  rw [e1] at ht
  rw [q4 t (by omega)]
  have : (RD.enc k i j 0).getD t 0 = (RD.head k i j).getD t 0 := by
    unfold RD.enc
    simp only [List.getD, List.getElem?_append_left (show t < (RD.head k i j).length by omega)]
  rw [this]
theorem begins34H (bx ox cx by' oy cy : Nat) (x y : List Int) (hl : Nat) (e1 : y.length = hl) (w : World) (hlx : x.length ≤ 9223372036854775806) (hx : Row w bx ox x) (hy : Hid (Row w by' oy y)) :
    Calls Try.prog 47 #[.slice (some ⟨bx, ox, none⟩) x.length cx, .slice (some ⟨by', oy, none⟩) hl cy] w fun e w' => e = .returned (.bool (RD.begins x y)) ∧ ∃ j, w' = w.drewN j := by
  subst e1
  exact begins34 bx ox cx by' oy cy x y w hlx hx hy.out
theorem getD_mem_int {l : List Int} {i : Nat} (h : i < l.length) : l.getD i 0 ∈ l := by
  have e : l.getD i 0 = l[i] := by simp [List.getD, h]
  rw [e]; exact List.getElem_mem h
theorem head26 {k : Nat} (h : k = 26) (i j : Int) : (RD.head k i j).length = 1 := by
  subst h
  unfold RD.head RD.rex RD.body RD.mid RD.last RD.pick
  simp [RD.form, RD.alone]
theorem or4b (n0 n1 n2 n3 : Int) (a0 : 0 ≤ n0) (b0 : n0 ≤ 255) (a1 : 0 ≤ n1) (b1 : n1 ≤ 255) (a2 : 0 ≤ n2) (b2 : n2 ≤ 255) (a3 : 0 ≤ n3) (b3 : n3 ≤ 255) :
    wrap32 (bits BinOp.or IntKind.u32 (bits BinOp.or IntKind.u32 (bits BinOp.or IntKind.u32 n0 (n1 * 256)) (n2 * 65536)) (n3 * 16777216)) = RD.s32 (n0 + 256 * n1 + 65536 * n2 + 16777216 * n3) := by
  have h := or4 n0 n1 n2 n3 a0 b0 a1 b1 a2 b2 a3 b3
  have e0 : bits BinOp.or IntKind.u32 0 n0 = n0 := by
    have := orU 0 0 n0 1 rfl (by omega) (by omega) a0 (by omega)
    simpa using this
  rwa [e0] at h
theorem i_cells {w w1 : World} {a b c d : Value} (hb : Below (w.alloc (.cells #[a, b, c, d] 63)).heap.size (w.alloc (.cells #[a, b, c, d] 63)) w1) : w1.heap[w.heap.size]? = some (.cells #[a, b, c, d] 63 (0, 0)) :=
  (hb.block _ (by simp)).trans (heap_alloc_new w _)
theorem z_kept {B : Nat} {w w1 : World} {o o' : Obj} (hz : w.heap[B]? = some o) (hb : Below (w.alloc o').heap.size (w.alloc o') w1) : w1.heap[B]? = some o := by
  have := block_lt hz
  exact (hb.block _ (by simp; omega)).trans ((Below.heap_alloc _ _ _ this).trans hz)
theorem below_in {B : Nat} {w w1 w2 : World} {o : Obj} (h : Below B w w1) (hB : B ≤ w1.heap.size) (hb : Below (w1.alloc o).heap.size (w1.alloc o) w2) : Below B w w2 := (h.alloc hB o).trans (hb.mono (by simp; omega))
theorem decode20 (bb oo cap at_ : Nat) (x : List Int) (w : World) (hat : at_ < x.length) (hL : x.length ≤ 100000) (hcap : x.length ≤ cap) (hL2 : cap ≤ 9223372036854775807) (hx : RD.isBytes x) (hr : Row w bb oo x) :
    Calls Try.prog 32 #[.slice (some ⟨bb, oo, none⟩) x.length cap, .int .i64 (at_ : Int)] w (RefPost (x.drop at_) w) := by
  have hy : RD.isBytes (x.drop at_) := fun v hv => hx v (List.mem_of_mem_drop hv)
  have hry := row_drop hr at_
  have hyl : (x.drop at_).length = x.length - at_ := List.length_drop
  generalize hyy : x.drop at_ = y at *
  have HX := Lib.hid hy; clear hy hx
  have HR := Lib.hid hry; clear hry hr
  have HYY := Lib.hid hyy; clear hyy
  have hne : cap ≠ at_ := by omega
  have h1 : decide ((at_ : Int) < 0) = false := by simp
  have h2 : decide (x.length ≤ at_) = false := by simp; omega
  have hyl' := hyl.symm
  have HYL := Lib.hid hyl
  clear hyl
  go_enter Try.func32, Try.ntmps32
  go_wp2_with fail
  go_loopw [8, 9] (fun c s wq => ∃ (k : Nat) (cut : Bool), 1 ≤ k ∧ k ≤ 27 ∧ s = .int .i64 k ∧ c = .bool cut ∧ Below w.heap.size w wq ∧ Hid (wq.heap[w.heap.size]? = some Z30) ∧ Hid (S0 y k cut)) (fun _ s _ => 27 - (intOf s).toNat)
  case atStart => exact ⟨1, false, by omega, by omega, rfl, rfl, (Below.refl _ _).alloc (Nat.le_refl _) _, Lib.hid (heap_alloc_new _ _), Lib.hid ⟨fun k' h h' => by omega, fun h => by cases h⟩⟩
  case round =>
    obtain ⟨k, cut, hk1, hk2, rfl, rfl, hbel, hZ, hS0⟩ := hrel
    have hltZ := block_lt hZ.out
    by_cases hk : k ≤ 26
    · have hkd : decide ((k : Int) ≤ 26) = true := by simp; omega
      have hT := takes28 k hk1 hk
      have hcb := combos k hk1 hk
      obtain ⟨ra, hra⟩ : ∃ ra, (RD.form k).a = ra := ⟨_, rfl⟩
      obtain ⟨rb, hrb⟩ : ∃ rb, (RD.form k).b = rb := ⟨_, rfl⟩
      obtain ⟨nb, hnb⟩ : ∃ nb, (RD.form k).nb = nb := ⟨_, rfl⟩
      obtain ⟨nn, hnn⟩ : ∃ nn, decide (0 < (RD.form k).nb) = nn := ⟨_, rfl⟩
      rw [hra, hrb, hnn] at hT
      rw [hra, hrb, hnn, hnb] at hcb
      have HCB := Lib.hid hcb; clear hcb
      have HF := Lib.hid (And.intro hra (And.intro hrb (And.intro hnb hnn))); clear hra hrb hnb hnn
      go_wp2_with (go_at_call 34; refine (hT _).mono ?_; rintro e w1 ⟨rfl, rfl⟩)
      go_loopw [8, 13] (fun c r wq => ∃ (i : Nat) (cut : Bool), i ≤ 16 ∧ r = .int .i64 i ∧ c = .bool cut ∧ Below w.heap.size w wq ∧ Hid (wq.heap[w.heap.size]? = some Z30) ∧ Hid (S0 y k cut ∧ S1 y k i cut)) (fun _ r _ => 16 - (intOf r).toNat)
      case atStart => exact ⟨0, cut, by omega, rfl, rfl, hbel, hZ, Lib.hid ⟨hS0.out, fun r' h => by omega⟩⟩
      case round =>
        clear hbel hZ hltZ hS0
        obtain ⟨i, cut, hi, rfl, rfl, hbel, hZ, hS1⟩ := hrel
        by_cases hi1 : i < 16
        · have hid : decide ((i : Int) < 16) = true := by simp; omega
          go_wp2_with fail
          go_loopw [8, 14] (fun c r wq => ∃ (j : Nat) (cut : Bool), j ≤ 16 ∧ r = .int .i64 j ∧ c = .bool cut ∧ Below w.heap.size w wq ∧ Hid (wq.heap[w.heap.size]? = some Z30) ∧ Hid (S0 y k cut ∧ S1 y k i cut ∧ S2 y k i j cut)) (fun _ r _ => 16 - (intOf r).toNat)
          case atStart => exact ⟨0, cut, by omega, rfl, rfl, hbel, hZ, Lib.hid ⟨hS1.out.1, hS1.out.2, fun r' h => by omega⟩⟩
          case round =>
            clear hbel hZ hS1
            obtain ⟨j, cut, hj, rfl, rfl, hbel, hZ, hS2⟩ := hrel
            have hltZ := block_lt hZ.out
            by_cases hj1 : j < 16
            · have hjd : decide ((j : Int) < 16) = true := by simp; omega
              cases hoa : RD.okA (RD.form k).a i with
              | false =>
                have hq : QQ y k i j cut := fun h => by unfold GG at h; rw [hoa] at h; cases h
                rw [HF.out.1] at hoa
                have HQ := Lib.hid hq; clear hq
                have HOA := Lib.hid hoa; clear hoa
                rcases HCB.out with ⟨e1, e2, e3, e3', e4⟩ | ⟨e1, e2, e3, e3', e4⟩ | ⟨e1, e2, e3, e3', e4⟩ | ⟨e1, e2, e3, e3', e4⟩ | ⟨e1, e2, e3, e3', e4⟩ | ⟨e1, e2, e3, e3', e4⟩ <;> subst e1 e2 e3 e3'
                · as_aux_lemma =>
                    have R29 := Lib.hid (fun w => reg29' i hi1 _ (ok_t HOA.out) w)
                    go_wp2_with (go_at_call 35; refine (R29.out _).mono ?_; rintro e w1 ⟨rfl, rfl⟩)
                    go_roundw
                    case rel => exact ⟨j + 1, cut, by omega, by go_num, rfl, by first | exact hbel | exact below_drewN hbel _, hZ, Lib.hid ⟨hS2.out.1, hS2.out.2.1, hS2.out.2.2.succ HQ.out⟩⟩
                    case measure => simp [intOf]; omega
                · as_aux_lemma =>
                    have R29 := Lib.hid (fun w => reg29' i hi1 _ (ok_t HOA.out) w)
                    cases hj0 : decide (0 < j)
                    all_goals
                      have hj2 := hj0
                      go_wp2_with (go_at_call 35; refine (R29.out _).mono ?_; rintro e w1 ⟨rfl, rfl⟩)
                      go_roundw
                      case rel => exact ⟨j + 1, cut, by omega, by go_num, rfl, by first | exact hbel | exact below_drewN hbel _, hZ, Lib.hid ⟨hS2.out.1, hS2.out.2.1, hS2.out.2.2.succ HQ.out⟩⟩
                      case measure => simp [intOf]; omega
                · as_aux_lemma =>
                    have R29 := Lib.hid (fun w => reg29' i hi1 _ (ok_t HOA.out) w)
                    cases hj0 : decide (0 < j)
                    all_goals
                      have hj2 := hj0
                      go_wp2_with (go_at_call 35; refine (R29.out _).mono ?_; rintro e w1 ⟨rfl, rfl⟩)
                      go_roundw
                      case rel => exact ⟨j + 1, cut, by omega, by go_num, rfl, by first | exact hbel | exact below_drewN hbel _, hZ, Lib.hid ⟨hS2.out.1, hS2.out.2.1, hS2.out.2.2.succ HQ.out⟩⟩
                      case measure => simp [intOf]; omega
                · as_aux_lemma =>
                    have R0 := ok_f HOA.out
                    simp only [Bool.not_false] at R0
                    have R1 : decide (0 < i) = true := by simpa using R0
                    go_wp2_with fail
                    first | go_quiet (fail) | skip
                    go_wp2_with fail
                    go_roundw
                    case rel => exact ⟨j + 1, cut, by omega, by go_num, rfl, by first | exact hbel | exact below_drewN hbel _, hZ, Lib.hid ⟨hS2.out.1, hS2.out.2.1, hS2.out.2.2.succ HQ.out⟩⟩
                    case measure => simp [intOf]; omega
                · as_aux_lemma =>
                    have R0 := ok_f HOA.out
                    simp only [Bool.not_false] at R0
                    have R1 : decide (0 < i) = true := by simpa using R0
                    go_wp2_with fail
                    first | go_quiet (fail) | skip
                    go_wp2_with fail
                    go_roundw
                    case rel => exact ⟨j + 1, cut, by omega, by go_num, rfl, by first | exact hbel | exact below_drewN hbel _, hZ, Lib.hid ⟨hS2.out.1, hS2.out.2.1, hS2.out.2.2.succ HQ.out⟩⟩
                    case measure => simp [intOf]; omega
                · as_aux_lemma =>
                    have R0 := ok_f HOA.out
                    simp only [Bool.not_false] at R0
                    have R1 : decide (0 < i) = true := by simpa using R0
                    go_wp2_with fail
                    first | go_quiet (fail) | skip
                    go_wp2_with fail
                    go_roundw
                    case rel => exact ⟨j + 1, cut, by omega, by go_num, rfl, by first | exact hbel | exact below_drewN hbel _, hZ, Lib.hid ⟨hS2.out.1, hS2.out.2.1, hS2.out.2.2.succ HQ.out⟩⟩
                    case measure => simp [intOf]; omega
              | true =>
               cases hob : RD.okA (RD.form k).b j with
               | false =>
                have hq : QQ y k i j cut := fun h => by unfold GG at h; rw [hob] at h; simp at h
                rw [HF.out.1] at hoa
                rw [HF.out.2.1] at hob
                have HQ := Lib.hid hq; clear hq
                have HOA := Lib.hid hoa; clear hoa
                have HOB := Lib.hid hob; clear hob
                rcases HCB.out with ⟨e1, e2, e3, e3', e4⟩ | ⟨e1, e2, e3, e3', e4⟩ | ⟨e1, e2, e3, e3', e4⟩ | ⟨e1, e2, e3, e3', e4⟩ | ⟨e1, e2, e3, e3', e4⟩ | ⟨e1, e2, e3, e3', e4⟩ <;> subst e1 e2 e3 e3'
                · as_aux_lemma =>
                    have R29 := Lib.hid (fun w => reg29' i hi1 _ (ok_t HOA.out) w)
                    have S29 := Lib.hid (fun w => reg29' j hj1 _ (ok_t HOB.out) w)
                    go_wp2_with (go_at_call 35; first | (with_reducible refine (R29.out _).mono ?_; rintro e w1 ⟨rfl, rfl⟩) | (with_reducible refine (S29.out _).mono ?_; rintro e w1 ⟨rfl, rfl⟩))
                    go_roundw
                    case rel => exact ⟨j + 1, cut, by omega, by go_num, rfl, by first | exact hbel | exact below_drewN hbel _, hZ, Lib.hid ⟨hS2.out.1, hS2.out.2.1, hS2.out.2.2.succ HQ.out⟩⟩
                    case measure => simp [intOf]; omega
                · as_aux_lemma =>
                    have S0 := ok_f HOB.out
                    simp only [Bool.not_false] at S0
                    have S1 : decide (0 < j) = true := by simpa using S0
                    go_wp2_with fail
                    go_roundw
                    case rel => exact ⟨j + 1, cut, by omega, by go_num, rfl, by first | exact hbel | exact below_drewN hbel _, hZ, Lib.hid ⟨hS2.out.1, hS2.out.2.1, hS2.out.2.2.succ HQ.out⟩⟩
                    case measure => simp [intOf]; omega
                · as_aux_lemma =>
                    have S0 := ok_f HOB.out
                    simp only [Bool.not_false] at S0
                    have S1 : decide (0 < j) = true := by simpa using S0
                    go_wp2_with fail
                    go_roundw
                    case rel => exact ⟨j + 1, cut, by omega, by go_num, rfl, by first | exact hbel | exact below_drewN hbel _, hZ, Lib.hid ⟨hS2.out.1, hS2.out.2.1, hS2.out.2.2.succ HQ.out⟩⟩
                    case measure => simp [intOf]; omega
                · as_aux_lemma =>
                    have R0 := ok_f HOA.out
                    simp only [Bool.not_true] at R0
                    have R1 : decide (0 < i) = false := by simpa using R0
                    have S0 := ok_f HOB.out
                    simp only [Bool.not_false] at S0
                    have S1 : decide (0 < j) = true := by simpa using S0
                    go_wp2_with fail
                    go_roundw
                    case rel => exact ⟨j + 1, cut, by omega, by go_num, rfl, by first | exact hbel | exact below_drewN hbel _, hZ, Lib.hid ⟨hS2.out.1, hS2.out.2.1, hS2.out.2.2.succ HQ.out⟩⟩
                    case measure => simp [intOf]; omega
                · as_aux_lemma =>
                    have R0 := ok_f HOA.out
                    simp only [Bool.not_true] at R0
                    have R1 : decide (0 < i) = false := by simpa using R0
                    have S0 := ok_f HOB.out
                    simp only [Bool.not_false] at S0
                    have S1 : decide (0 < j) = true := by simpa using S0
                    go_wp2_with fail
                    go_roundw
                    case rel => exact ⟨j + 1, cut, by omega, by go_num, rfl, by first | exact hbel | exact below_drewN hbel _, hZ, Lib.hid ⟨hS2.out.1, hS2.out.2.1, hS2.out.2.2.succ HQ.out⟩⟩
                    case measure => simp [intOf]; omega
                · as_aux_lemma =>
                    have R0 := ok_f HOA.out
                    simp only [Bool.not_true] at R0
                    have R1 : decide (0 < i) = false := by simpa using R0
                    have S0 := ok_f HOB.out
                    simp only [Bool.not_false] at S0
                    have S1 : decide (0 < j) = true := by simpa using S0
                    go_wp2_with fail
                    go_roundw
                    case rel => exact ⟨j + 1, cut, by omega, by go_num, rfl, by first | exact hbel | exact below_drewN hbel _, hZ, Lib.hid ⟨hS2.out.1, hS2.out.2.1, hS2.out.2.2.succ HQ.out⟩⟩
                    case measure => simp [intOf]; omega
               | true =>
                have hval : RD.valid k i j 0 = true := (RD.valid_iff _ _ _ _).2 ⟨hoa, hob, ok0 k⟩
                obtain ⟨hl, hhl⟩ : ∃ hl, (RD.head k i j).length = hl := ⟨_, rfl⟩
                have hl7 := RD.head_le k i j
                have hl1 := RD.head_pos k i j
                rw [hhl] at hl7 hl1
                rw [HF.out.2.2.1] at hl7
                obtain ⟨bg, hbg⟩ : ∃ bg, RD.begins y (RD.head k i j) = bg := ⟨_, rfl⟩
                have hgg : GG y k i j = bg := by unfold GG; rw [hoa, hob, hbg]; rfl
                have HGG := Lib.hid hgg; clear hgg
                have HO := Lib.hid (And.intro hoa hob)
                rw [HF.out.1] at hoa
                rw [HF.out.2.1] at hob
                have HOA := Lib.hid hoa; clear hoa
                have HOB := Lib.hid hob; clear hob
                have HBG := Lib.hid hbg; clear hbg
                have HHL := Lib.hid hhl; clear hhl
                have HV := Lib.hid hval; clear hval
                rcases HCB.out with ⟨e1, e2, e3, e3', e4⟩ | ⟨e1, e2, e3, e3', e4⟩ | ⟨e1, e2, e3, e3', e4⟩ | ⟨e1, e2, e3, e3', e4⟩ | ⟨e1, e2, e3, e3', e4⟩ | ⟨e1, e2, e3, e3', e4⟩ <;> subst e1 e2 e3 e3'
                · as_aux_lemma =>
                    have R29 := Lib.hid (fun w => reg29' i hi1 _ (ok_t HOA.out) w)
                    have S29 := Lib.hid (fun w => reg29' j hj1 _ (ok_t HOB.out) w)
                    have E13 := Lib.hid (fun w => enc13H k hk1 hk i j HV.out hl 0 HHL.out HF.out.2.2.1 w)
                    cases bg with
                    | false =>
                      have hq : QQ y k i j cut := fun h => by rw [HGG.out] at h; cases h
                      have HQ := Lib.hid hq; clear hq
                      go_wp2_with (first | (go_at_call 35; first | (with_reducible refine (R29.out _).mono ?_; rintro e w1 ⟨rfl, rfl⟩) | (with_reducible refine (S29.out _).mono ?_; rintro e w1 ⟨rfl, rfl⟩)) | (go_at_call 27; refine (E13.out _).mono ?_; rintro e wE ⟨blk, base, cp, rfl, hcp, hrow, hb1⟩; have hbel1 := below_in hbel hbel.size hb1; have hZ1 := z_kept hZ.out hb1; have hI := i_cells hb1; have HBB := Lib.hid hb1; clear hb1; obtain ⟨i0, i1, i2, i3⟩ := cells30 hI; obtain ⟨j0, j1, j2, j3⟩ := froz30 hI; obtain ⟨d0, d1, d2, d3⟩ := cells30 hZ1; obtain ⟨f0, f1, f2, f3⟩ := froz30 hZ1; have HZ1 := Lib.hid hZ1; clear hZ1; have HI := Lib.hid hI; clear hI) | (go_at_call 47; refine (begins34H bb (oo + at_) (cap - at_) blk base _ y (RD.head k i j) hl HHL.out _ (by omega) (HR.out.mono hbel1) hrow).mono ?_; rw [HBG.out]; rintro e w2 ⟨rfl, jj, rfl⟩))
                      go_roundw
                      case rel => exact ⟨j + 1, cut, by omega, by go_num, rfl, below_drewN hbel1 _, Lib.hid HZ1.out, Lib.hid ⟨hS2.out.1, hS2.out.2.1, hS2.out.2.2.succ HQ.out⟩⟩
                      case measure => simp [intOf]; omega
                    | true =>
                      by_cases hsh : y.length < hl
                      · have hq : QQ y k i j true := fun _ => ⟨by rw [HHL.out, HF.out.2.2.1]; exact hsh, rfl⟩
                        have hst : RD.start y := ⟨k, i, j, hk1, hk, HO.out.1, HO.out.2, HBG.out⟩
                        have HQ := Lib.hid hq; clear hq
                        have HST := Lib.hid hst; clear hst
                        have hshd : decide ((y.length : Int) < (hl : Int)) = true := by simp; omega
                        go_wp2_with (first | (go_at_call 35; first | (with_reducible refine (R29.out _).mono ?_; rintro e w1 ⟨rfl, rfl⟩) | (with_reducible refine (S29.out _).mono ?_; rintro e w1 ⟨rfl, rfl⟩)) | (go_at_call 27; refine (E13.out _).mono ?_; rintro e wE ⟨blk, base, cp, rfl, hcp, hrow, hb1⟩; have hbel1 := below_in hbel hbel.size hb1; have hZ1 := z_kept hZ.out hb1; have hI := i_cells hb1; have HBB := Lib.hid hb1; clear hb1; obtain ⟨i0, i1, i2, i3⟩ := cells30 hI; obtain ⟨j0, j1, j2, j3⟩ := froz30 hI; obtain ⟨d0, d1, d2, d3⟩ := cells30 hZ1; obtain ⟨f0, f1, f2, f3⟩ := froz30 hZ1; have HZ1 := Lib.hid hZ1; clear hZ1; have HI := Lib.hid hI; clear hI) | (go_at_call 47; refine (begins34H bb (oo + at_) (cap - at_) blk base _ y (RD.head k i j) hl HHL.out _ (by omega) (HR.out.mono hbel1) hrow).mono ?_; rw [HBG.out]; rintro e w2 ⟨rfl, jj, rfl⟩))
                        go_roundw
                        case rel => exact ⟨j + 1, true, by omega, by go_num, rfl, below_drewN hbel1 _, Lib.hid HZ1.out, Lib.hid ⟨hS2.out.1.up HST.out, hS2.out.2.1.up, hS2.out.2.2.up.succ HQ.out⟩⟩
                        case measure => simp [intOf]; omega
                      · have hat2 := RD.at_of_begins HX.out HO.out.1 HO.out.2 HBG.out (by rw [HHL.out, HF.out.2.2.1]; omega)
                        have hlen2 : (RD.enc k i j (RD.val y (RD.head k i j).length (RD.form k).nb)).length = hl := by rw [RD.enc_length, HHL.out, HF.out.2.2.1]; rfl
                        have hd : RD.Reads y (.ok k i j (RD.val y hl 0) (hl)) := by
                          have hd0 := RD.Reads.ok hk1 hk hat2
                          rw [hlen2, HHL.out, HF.out.2.2.1] at hd0
                          exact hd0
                        have HD := Lib.hid hd; clear hd hat2 hlen2
                        have hshd : decide ((y.length : Int) < (hl : Int)) = false := by simp; omega
                        go_wp2_with (first | (go_at_call 35; first | (with_reducible refine (R29.out _).mono ?_; rintro e w1 ⟨rfl, rfl⟩) | (with_reducible refine (S29.out _).mono ?_; rintro e w1 ⟨rfl, rfl⟩)) | (go_at_call 27; refine (E13.out _).mono ?_; rintro e wE ⟨blk, base, cp, rfl, hcp, hrow, hb1⟩; have hbel1 := below_in hbel hbel.size hb1; have hZ1 := z_kept hZ.out hb1; have hI := i_cells hb1; have HBB := Lib.hid hb1; clear hb1; obtain ⟨i0, i1, i2, i3⟩ := cells30 hI; obtain ⟨j0, j1, j2, j3⟩ := froz30 hI; obtain ⟨d0, d1, d2, d3⟩ := cells30 hZ1; obtain ⟨f0, f1, f2, f3⟩ := froz30 hZ1; have HZ1 := Lib.hid hZ1; clear hZ1; have HI := Lib.hid hI; clear hI) | (go_at_call 47; refine (begins34H bb (oo + at_) (cap - at_) blk base _ y (RD.head k i j) hl HHL.out _ (by omega) (HR.out.mono hbel1) hrow).mono ?_; rw [HBG.out]; rintro e w2 ⟨rfl, jj, rfl⟩))
                        obtain ⟨g0, g1, g2, g3⟩ := cells30 (fin30 (w := wE.drewN jj) HZ1.out (.int .i64 (k : Int)) (.int .i64 (i : Int)) (.int .i64 (j : Int)) (.int .i32 0))
                        refine bodyPost_ret (v := decV (.ok k i j 0 (hl))) (by simp [decV, results, results20, go_sem, g0, g1, g2, g3]) rfl ⟨⟨.ok k i j 0 (hl), HD.out, rfl⟩, ?_⟩
                        exact (((((below_drewN hbel1 _).setCell (Nat.le_refl _) _).setCell (Nat.le_refl _) _).setCell (Nat.le_refl _) _).setCell (Nat.le_refl _) _)
                · as_aux_lemma =>
                    have R29 := Lib.hid (fun w => reg29' i hi1 _ (ok_t HOA.out) w)
                    have S0 := ok_f HOB.out
                    simp only [Bool.not_true] at S0
                    have S1 : decide (0 < j) = false := by simpa using S0
                    have E13 := Lib.hid (fun w => enc13H k hk1 hk i j HV.out hl 0 HHL.out HF.out.2.2.1 w)
                    cases bg with
                    | false =>
                      have hq : QQ y k i j cut := fun h => by rw [HGG.out] at h; cases h
                      have HQ := Lib.hid hq; clear hq
                      go_wp2_with (first | (go_at_call 35; first | (with_reducible refine (R29.out _).mono ?_; rintro e w1 ⟨rfl, rfl⟩)) | (go_at_call 27; refine (E13.out _).mono ?_; rintro e wE ⟨blk, base, cp, rfl, hcp, hrow, hb1⟩; have hbel1 := below_in hbel hbel.size hb1; have hZ1 := z_kept hZ.out hb1; have hI := i_cells hb1; have HBB := Lib.hid hb1; clear hb1; obtain ⟨i0, i1, i2, i3⟩ := cells30 hI; obtain ⟨j0, j1, j2, j3⟩ := froz30 hI; obtain ⟨d0, d1, d2, d3⟩ := cells30 hZ1; obtain ⟨f0, f1, f2, f3⟩ := froz30 hZ1; have HZ1 := Lib.hid hZ1; clear hZ1; have HI := Lib.hid hI; clear hI) | (go_at_call 47; refine (begins34H bb (oo + at_) (cap - at_) blk base _ y (RD.head k i j) hl HHL.out _ (by omega) (HR.out.mono hbel1) hrow).mono ?_; rw [HBG.out]; rintro e w2 ⟨rfl, jj, rfl⟩))
                      go_roundw
                      case rel => exact ⟨j + 1, cut, by omega, by go_num, rfl, below_drewN hbel1 _, Lib.hid HZ1.out, Lib.hid ⟨hS2.out.1, hS2.out.2.1, hS2.out.2.2.succ HQ.out⟩⟩
                      case measure => simp [intOf]; omega
                    | true =>
                      by_cases hsh : y.length < hl
                      · have hq : QQ y k i j true := fun _ => ⟨by rw [HHL.out, HF.out.2.2.1]; exact hsh, rfl⟩
                        have hst : RD.start y := ⟨k, i, j, hk1, hk, HO.out.1, HO.out.2, HBG.out⟩
                        have HQ := Lib.hid hq; clear hq
                        have HST := Lib.hid hst; clear hst
                        have hshd : decide ((y.length : Int) < (hl : Int)) = true := by simp; omega
                        go_wp2_with (first | (go_at_call 35; first | (with_reducible refine (R29.out _).mono ?_; rintro e w1 ⟨rfl, rfl⟩)) | (go_at_call 27; refine (E13.out _).mono ?_; rintro e wE ⟨blk, base, cp, rfl, hcp, hrow, hb1⟩; have hbel1 := below_in hbel hbel.size hb1; have hZ1 := z_kept hZ.out hb1; have hI := i_cells hb1; have HBB := Lib.hid hb1; clear hb1; obtain ⟨i0, i1, i2, i3⟩ := cells30 hI; obtain ⟨j0, j1, j2, j3⟩ := froz30 hI; obtain ⟨d0, d1, d2, d3⟩ := cells30 hZ1; obtain ⟨f0, f1, f2, f3⟩ := froz30 hZ1; have HZ1 := Lib.hid hZ1; clear hZ1; have HI := Lib.hid hI; clear hI) | (go_at_call 47; refine (begins34H bb (oo + at_) (cap - at_) blk base _ y (RD.head k i j) hl HHL.out _ (by omega) (HR.out.mono hbel1) hrow).mono ?_; rw [HBG.out]; rintro e w2 ⟨rfl, jj, rfl⟩))
                        go_roundw
                        case rel => exact ⟨j + 1, true, by omega, by go_num, rfl, below_drewN hbel1 _, Lib.hid HZ1.out, Lib.hid ⟨hS2.out.1.up HST.out, hS2.out.2.1.up, hS2.out.2.2.up.succ HQ.out⟩⟩
                        case measure => simp [intOf]; omega
                      · have hat2 := RD.at_of_begins HX.out HO.out.1 HO.out.2 HBG.out (by rw [HHL.out, HF.out.2.2.1]; omega)
                        have hlen2 : (RD.enc k i j (RD.val y (RD.head k i j).length (RD.form k).nb)).length = hl := by rw [RD.enc_length, HHL.out, HF.out.2.2.1]; rfl
                        have hd : RD.Reads y (.ok k i j (RD.val y hl 0) (hl)) := by
                          have hd0 := RD.Reads.ok hk1 hk hat2
                          rw [hlen2, HHL.out, HF.out.2.2.1] at hd0
                          exact hd0
                        have HD := Lib.hid hd; clear hd hat2 hlen2
                        have hshd : decide ((y.length : Int) < (hl : Int)) = false := by simp; omega
                        go_wp2_with (first | (go_at_call 35; first | (with_reducible refine (R29.out _).mono ?_; rintro e w1 ⟨rfl, rfl⟩)) | (go_at_call 27; refine (E13.out _).mono ?_; rintro e wE ⟨blk, base, cp, rfl, hcp, hrow, hb1⟩; have hbel1 := below_in hbel hbel.size hb1; have hZ1 := z_kept hZ.out hb1; have hI := i_cells hb1; have HBB := Lib.hid hb1; clear hb1; obtain ⟨i0, i1, i2, i3⟩ := cells30 hI; obtain ⟨j0, j1, j2, j3⟩ := froz30 hI; obtain ⟨d0, d1, d2, d3⟩ := cells30 hZ1; obtain ⟨f0, f1, f2, f3⟩ := froz30 hZ1; have HZ1 := Lib.hid hZ1; clear hZ1; have HI := Lib.hid hI; clear hI) | (go_at_call 47; refine (begins34H bb (oo + at_) (cap - at_) blk base _ y (RD.head k i j) hl HHL.out _ (by omega) (HR.out.mono hbel1) hrow).mono ?_; rw [HBG.out]; rintro e w2 ⟨rfl, jj, rfl⟩))
                        obtain ⟨g0, g1, g2, g3⟩ := cells30 (fin30 (w := wE.drewN jj) HZ1.out (.int .i64 (k : Int)) (.int .i64 (i : Int)) (.int .i64 (j : Int)) (.int .i32 0))
                        refine bodyPost_ret (v := decV (.ok k i j 0 (hl))) (by simp [decV, results, results20, go_sem, g0, g1, g2, g3]) rfl ⟨⟨.ok k i j 0 (hl), HD.out, rfl⟩, ?_⟩
                        exact (((((below_drewN hbel1 _).setCell (Nat.le_refl _) _).setCell (Nat.le_refl _) _).setCell (Nat.le_refl _) _).setCell (Nat.le_refl _) _)
                · as_aux_lemma =>
                    have R29 := Lib.hid (fun w => reg29' i hi1 _ (ok_t HOA.out) w)
                    have S0 := ok_f HOB.out
                    simp only [Bool.not_true] at S0
                    have S1 : decide (0 < j) = false := by simpa using S0
                    have E13 := Lib.hid (fun w => enc13H k hk1 hk i j HV.out hl 4 HHL.out HF.out.2.2.1 w)
                    cases bg with
                    | false =>
                      have hq : QQ y k i j cut := fun h => by rw [HGG.out] at h; cases h
                      have HQ := Lib.hid hq; clear hq
                      go_wp2_with (first | (go_at_call 35; first | (with_reducible refine (R29.out _).mono ?_; rintro e w1 ⟨rfl, rfl⟩)) | (go_at_call 27; refine (E13.out _).mono ?_; rintro e wE ⟨blk, base, cp, rfl, hcp, hrow, hb1⟩; have hbel1 := below_in hbel hbel.size hb1; have hZ1 := z_kept hZ.out hb1; have hI := i_cells hb1; have HBB := Lib.hid hb1; clear hb1; obtain ⟨i0, i1, i2, i3⟩ := cells30 hI; obtain ⟨j0, j1, j2, j3⟩ := froz30 hI; obtain ⟨d0, d1, d2, d3⟩ := cells30 hZ1; obtain ⟨f0, f1, f2, f3⟩ := froz30 hZ1; have HZ1 := Lib.hid hZ1; clear hZ1; have HI := Lib.hid hI; clear hI) | (go_at_call 47; refine (begins34H bb (oo + at_) (cap - at_) blk base _ y (RD.head k i j) hl HHL.out _ (by omega) (HR.out.mono hbel1) hrow).mono ?_; rw [HBG.out]; rintro e w2 ⟨rfl, jj, rfl⟩))
                      go_roundw
                      case rel => exact ⟨j + 1, cut, by omega, by go_num, rfl, below_drewN hbel1 _, Lib.hid HZ1.out, Lib.hid ⟨hS2.out.1, hS2.out.2.1, hS2.out.2.2.succ HQ.out⟩⟩
                      case measure => simp [intOf]; omega
                    | true =>
                      by_cases hsh : y.length < hl + 4
                      · have hq : QQ y k i j true := fun _ => ⟨by rw [HHL.out, HF.out.2.2.1]; exact hsh, rfl⟩
                        have hst : RD.start y := ⟨k, i, j, hk1, hk, HO.out.1, HO.out.2, HBG.out⟩
                        have HQ := Lib.hid hq; clear hq
                        have HST := Lib.hid hst; clear hst
                        have hshd : decide ((y.length : Int) < (hl : Int) + 4) = true := by simp; omega
                        go_wp2_with (first | (go_at_call 35; first | (with_reducible refine (R29.out _).mono ?_; rintro e w1 ⟨rfl, rfl⟩)) | (go_at_call 27; refine (E13.out _).mono ?_; rintro e wE ⟨blk, base, cp, rfl, hcp, hrow, hb1⟩; have hbel1 := below_in hbel hbel.size hb1; have hZ1 := z_kept hZ.out hb1; have hI := i_cells hb1; have HBB := Lib.hid hb1; clear hb1; obtain ⟨i0, i1, i2, i3⟩ := cells30 hI; obtain ⟨j0, j1, j2, j3⟩ := froz30 hI; obtain ⟨d0, d1, d2, d3⟩ := cells30 hZ1; obtain ⟨f0, f1, f2, f3⟩ := froz30 hZ1; have HZ1 := Lib.hid hZ1; clear hZ1; have HI := Lib.hid hI; clear hI) | (go_at_call 47; refine (begins34H bb (oo + at_) (cap - at_) blk base _ y (RD.head k i j) hl HHL.out _ (by omega) (HR.out.mono hbel1) hrow).mono ?_; rw [HBG.out]; rintro e w2 ⟨rfl, jj, rfl⟩))
                        go_roundw
                        case rel => exact ⟨j + 1, true, by omega, by go_num, rfl, below_drewN hbel1 _, Lib.hid HZ1.out, Lib.hid ⟨hS2.out.1.up HST.out, hS2.out.2.1.up, hS2.out.2.2.up.succ HQ.out⟩⟩
                        case measure => simp [intOf]; omega
                      · have hat2 := RD.at_of_begins HX.out HO.out.1 HO.out.2 HBG.out (by rw [HHL.out, HF.out.2.2.1]; omega)
                        have hlen2 : (RD.enc k i j (RD.val y (RD.head k i j).length (RD.form k).nb)).length = hl + 4 := by rw [RD.enc_length, HHL.out, HF.out.2.2.1]
                        have hd : RD.Reads y (.ok k i j (RD.val y hl 4) (hl + 4)) := by
                          have hd0 := RD.Reads.ok hk1 hk hat2
                          rw [hlen2, HHL.out, HF.out.2.2.1] at hd0
                          exact hd0
                        have HD := Lib.hid hd; clear hd hat2 hlen2
                        have hshd : decide ((y.length : Int) < (hl : Int) + 4) = false := by simp; omega
                        have hN : ∀ t, t < 4 → 0 ≤ y.getD (hl + t) 0 ∧ y.getD (hl + t) 0 ≤ 255 := fun t ht => HX.out _ (getD_mem_int (by omega))
                        obtain ⟨s0, t0⟩ := hN 0 (by omega)
                        have hby0 := HR.out.2 (hl + 0) (by omega)
                        obtain ⟨s1, t1⟩ := hN 1 (by omega)
                        have hby1 := HR.out.2 (hl + 1) (by omega)
                        obtain ⟨s2, t2⟩ := hN 2 (by omega)
                        have hby2 := HR.out.2 (hl + 2) (by omega)
                        obtain ⟨s3, t3⟩ := hN 3 (by omega)
                        have hby3 := HR.out.2 (hl + 3) (by omega)
                        generalize hvn0 : y.getD (hl + 0) 0 = n0 at *
                        have HN0 := Lib.hid hvn0; clear hvn0
                        generalize hvn1 : y.getD (hl + 1) 0 = n1 at *
                        have HN1 := Lib.hid hvn1; clear hvn1
                        generalize hvn2 : y.getD (hl + 2) 0 = n2 at *
                        have HN2 := Lib.hid hvn2; clear hvn2
                        generalize hvn3 : y.getD (hl + 3) 0 = n3 at *
                        have HN3 := Lib.hid hvn3; clear hvn3
                        have z0 : hl < y.length := by omega
                        have z1 : hl + 1 < y.length := by omega
                        have z2 : hl + 2 < y.length := by omega
                        have z3 : hl + 3 < y.length := by omega
                        have v1 : IntKind.i64.wrap ((hl : Int) + 1) = (hl : Int) + 1 := IntWalk.i64_in _ (by omega)
                        have v2 : IntKind.i64.wrap ((hl : Int) + 2) = (hl : Int) + 2 := IntWalk.i64_in _ (by omega)
                        have v3 : IntKind.i64.wrap ((hl : Int) + 3) = (hl : Int) + 3 := IntWalk.i64_in _ (by omega)
                        have c1 : (hl : Int) + 1 < (y.length : Int) := by omega
                        have c2 : (hl : Int) + 2 < (y.length : Int) := by omega
                        have c3 : (hl : Int) + 3 < (y.length : Int) := by omega
                        have c10 : 0 ≤ (hl : Int) + 1 := by omega
                        have c20 : 0 ≤ (hl : Int) + 2 := by omega
                        have c30 : 0 ≤ (hl : Int) + 3 := by omega
                        have u1 : ((hl : Int) + 1).toNat = hl + 1 := by omega
                        have u2 : ((hl : Int) + 2).toNat = hl + 2 := by omega
                        have u3 : ((hl : Int) + 3).toNat = hl + 3 := by omega
                        have qN := or4b n0 n1 n2 n3 (by omega) (by omega) (by omega) (by omega) (by omega) (by omega) (by omega) (by omega)
                        clear hN
                        go_wp2_with (first | (go_at_call 35; first | (with_reducible refine (R29.out _).mono ?_; rintro e w1 ⟨rfl, rfl⟩)) | (go_at_call 27; refine (E13.out _).mono ?_; rintro e wE ⟨blk, base, cp, rfl, hcp, hrow, hb1⟩; have hbel1 := below_in hbel hbel.size hb1; have HZ1 := Lib.hid (z_kept hZ.out hb1); have HI := Lib.hid (i_cells hb1); have HBB := Lib.hid hb1; clear hb1) | (go_at_call 47; refine (begins34H bb (oo + at_) (cap - at_) blk base _ y (RD.head k i j) hl HHL.out _ (by omega) (HR.out.mono hbel1) hrow).mono ?_; rw [HBG.out]; rintro e w2 ⟨rfl, jj, hw2⟩; have hh : w2.heap = wE.heap := (by rw [hw2]; rfl); have hbel2 : Below w.heap.size w w2 := (by rw [hw2]; exact below_drewN hbel1 _); have hI := HI.out; have hZ2 := HZ1.out; rw [← hh] at hI hZ2; have HI2 := Lib.hid hI; have HZ2 := Lib.hid hZ2; have HW2 := Lib.hid hw2; clear hI hZ2 hh hw2; have y0 : w2.cell? ⟨bb, oo + at_ + hl, none⟩ = some (.int .u8 n0) := (hbel2.cell HR.out.1).trans hby0; have y1 : w2.cell? ⟨bb, oo + at_ + (hl + 1), none⟩ = some (.int .u8 n1) := (hbel2.cell HR.out.1).trans hby1; have y2 : w2.cell? ⟨bb, oo + at_ + (hl + 2), none⟩ = some (.int .u8 n2) := (hbel2.cell HR.out.1).trans hby2; have y3 : w2.cell? ⟨bb, oo + at_ + (hl + 3), none⟩ = some (.int .u8 n3) := (hbel2.cell HR.out.1).trans hby3))
                        go_still_tail 31, (by kernel_rfl)
                        repeat (first | still_step | (refine wpStill_step (fun K hK => ?_); go_simp; go_bits; refine hK _ ?_; clear hK K))
                        try refine wpStill_nil ?_
                        change wpList _ _ _ _ _ w2.drew
                        have hbel3 : Below w.heap.size w w2.drew := hbel2.drew
                        have hI3 := HI2.out
                        have hZ3 := HZ2.out
                        change w2.drew.heap[_]? = _ at hI3
                        change w2.drew.heap[_]? = _ at hZ3
                        clear y0 y1 y2 y3
                        generalize w2.drew = w3 at *
                        obtain ⟨i0, i1, i2, i3⟩ := cells30 hI3
                        obtain ⟨j0, j1, j2, j3⟩ := froz30 hI3
                        obtain ⟨d0, d1, d2, d3⟩ := cells30 hZ3
                        obtain ⟨f0, f1, f2, f3⟩ := froz30 hZ3
                        have HI3 := Lib.hid hI3; have HZ3 := Lib.hid hZ3; clear hI3 hZ3
                        go_wp2_with fail
                        have hv9 : RD.val y hl 4 = (RD.s32 (n0 + 256 * n1 + 65536 * n2 + 16777216 * n3)) := by rw [← HN0.out, ← HN1.out, ← HN2.out, ← HN3.out]; rfl
                        have hz9 : (w3.setCell ⟨w1.heap.size, 3, none⟩ (.int .i32 (RD.s32 (n0 + 256 * n1 + 65536 * n2 + 16777216 * n3)))).heap[w.heap.size]? = some Z30 := (Below.heap_setCell _ _ _ _ (by simp; omega)).trans HZ3.out
                        obtain ⟨g0, g1, g2, g3⟩ := cells30 (fin30 hz9 (.int .i64 (k : Int)) (.int .i64 (i : Int)) (.int .i64 (j : Int)) (.int .i32 (RD.s32 (n0 + 256 * n1 + 65536 * n2 + 16777216 * n3))))
                        refine bodyPost_ret (v := decV (.ok k i j (RD.s32 (n0 + 256 * n1 + 65536 * n2 + 16777216 * n3)) (hl + 4))) (by simp [decV, results, results20, go_sem, g0, g1, g2, g3]) rfl ⟨⟨.ok k i j (RD.s32 (n0 + 256 * n1 + 65536 * n2 + 16777216 * n3)) (hl + 4), (by rw [← hv9]; exact HD.out), rfl⟩, ?_⟩
                        exact (((((hbel3.setCell (by have := hbel.size; simp; omega) _).setCell (Nat.le_refl _) _).setCell (Nat.le_refl _) _).setCell (Nat.le_refl _) _).setCell (Nat.le_refl _) _)
                · as_aux_lemma =>
                    have R0 := ok_f HOA.out
                    simp only [Bool.not_true] at R0
                    have R1 : decide (0 < i) = false := by simpa using R0
                    have S0 := ok_f HOB.out
                    simp only [Bool.not_true] at S0
                    have S1 : decide (0 < j) = false := by simpa using S0
                    have E13 := Lib.hid (fun w => enc13H k hk1 hk i j HV.out hl 0 HHL.out HF.out.2.2.1 w)
                    cases bg with
                    | false =>
                      have hq : QQ y k i j cut := fun h => by rw [HGG.out] at h; cases h
                      have HQ := Lib.hid hq; clear hq
                      go_wp2_with (first | (go_at_call 27; refine (E13.out _).mono ?_; rintro e wE ⟨blk, base, cp, rfl, hcp, hrow, hb1⟩; have hbel1 := below_in hbel hbel.size hb1; have hZ1 := z_kept hZ.out hb1; have hI := i_cells hb1; have HBB := Lib.hid hb1; clear hb1; obtain ⟨i0, i1, i2, i3⟩ := cells30 hI; obtain ⟨j0, j1, j2, j3⟩ := froz30 hI; obtain ⟨d0, d1, d2, d3⟩ := cells30 hZ1; obtain ⟨f0, f1, f2, f3⟩ := froz30 hZ1; have HZ1 := Lib.hid hZ1; clear hZ1; have HI := Lib.hid hI; clear hI) | (go_at_call 47; refine (begins34H bb (oo + at_) (cap - at_) blk base _ y (RD.head k i j) hl HHL.out _ (by omega) (HR.out.mono hbel1) hrow).mono ?_; rw [HBG.out]; rintro e w2 ⟨rfl, jj, rfl⟩))
                      go_roundw
                      case rel => exact ⟨j + 1, cut, by omega, by go_num, rfl, below_drewN hbel1 _, Lib.hid HZ1.out, Lib.hid ⟨hS2.out.1, hS2.out.2.1, hS2.out.2.2.succ HQ.out⟩⟩
                      case measure => simp [intOf]; omega
                    | true =>
                      by_cases hsh : y.length < hl
                      · have hq : QQ y k i j true := fun _ => ⟨by rw [HHL.out, HF.out.2.2.1]; exact hsh, rfl⟩
                        have hst : RD.start y := ⟨k, i, j, hk1, hk, HO.out.1, HO.out.2, HBG.out⟩
                        have HQ := Lib.hid hq; clear hq
                        have HST := Lib.hid hst; clear hst
                        have hshd : decide ((y.length : Int) < (hl : Int)) = true := by simp; omega
                        go_wp2_with (first | (go_at_call 27; refine (E13.out _).mono ?_; rintro e wE ⟨blk, base, cp, rfl, hcp, hrow, hb1⟩; have hbel1 := below_in hbel hbel.size hb1; have hZ1 := z_kept hZ.out hb1; have hI := i_cells hb1; have HBB := Lib.hid hb1; clear hb1; obtain ⟨i0, i1, i2, i3⟩ := cells30 hI; obtain ⟨j0, j1, j2, j3⟩ := froz30 hI; obtain ⟨d0, d1, d2, d3⟩ := cells30 hZ1; obtain ⟨f0, f1, f2, f3⟩ := froz30 hZ1; have HZ1 := Lib.hid hZ1; clear hZ1; have HI := Lib.hid hI; clear hI) | (go_at_call 47; refine (begins34H bb (oo + at_) (cap - at_) blk base _ y (RD.head k i j) hl HHL.out _ (by omega) (HR.out.mono hbel1) hrow).mono ?_; rw [HBG.out]; rintro e w2 ⟨rfl, jj, rfl⟩))
                        go_roundw
                        case rel => exact ⟨j + 1, true, by omega, by go_num, rfl, below_drewN hbel1 _, Lib.hid HZ1.out, Lib.hid ⟨hS2.out.1.up HST.out, hS2.out.2.1.up, hS2.out.2.2.up.succ HQ.out⟩⟩
                        case measure => simp [intOf]; omega
                      · have hat2 := RD.at_of_begins HX.out HO.out.1 HO.out.2 HBG.out (by rw [HHL.out, HF.out.2.2.1]; omega)
                        have hlen2 : (RD.enc k i j (RD.val y (RD.head k i j).length (RD.form k).nb)).length = hl := by rw [RD.enc_length, HHL.out, HF.out.2.2.1]; rfl
                        have hd : RD.Reads y (.ok k i j (RD.val y hl 0) (hl)) := by
                          have hd0 := RD.Reads.ok hk1 hk hat2
                          rw [hlen2, HHL.out, HF.out.2.2.1] at hd0
                          exact hd0
                        have HD := Lib.hid hd; clear hd hat2 hlen2
                        have hshd : decide ((y.length : Int) < (hl : Int)) = false := by simp; omega
                        go_wp2_with (first | (go_at_call 27; refine (E13.out _).mono ?_; rintro e wE ⟨blk, base, cp, rfl, hcp, hrow, hb1⟩; have hbel1 := below_in hbel hbel.size hb1; have hZ1 := z_kept hZ.out hb1; have hI := i_cells hb1; have HBB := Lib.hid hb1; clear hb1; obtain ⟨i0, i1, i2, i3⟩ := cells30 hI; obtain ⟨j0, j1, j2, j3⟩ := froz30 hI; obtain ⟨d0, d1, d2, d3⟩ := cells30 hZ1; obtain ⟨f0, f1, f2, f3⟩ := froz30 hZ1; have HZ1 := Lib.hid hZ1; clear hZ1; have HI := Lib.hid hI; clear hI) | (go_at_call 47; refine (begins34H bb (oo + at_) (cap - at_) blk base _ y (RD.head k i j) hl HHL.out _ (by omega) (HR.out.mono hbel1) hrow).mono ?_; rw [HBG.out]; rintro e w2 ⟨rfl, jj, rfl⟩))
                        obtain ⟨g0, g1, g2, g3⟩ := cells30 (fin30 (w := wE.drewN jj) HZ1.out (.int .i64 (k : Int)) (.int .i64 (i : Int)) (.int .i64 (j : Int)) (.int .i32 0))
                        refine bodyPost_ret (v := decV (.ok k i j 0 (hl))) (by simp [decV, results, results20, go_sem, g0, g1, g2, g3]) rfl ⟨⟨.ok k i j 0 (hl), HD.out, rfl⟩, ?_⟩
                        exact (((((below_drewN hbel1 _).setCell (Nat.le_refl _) _).setCell (Nat.le_refl _) _).setCell (Nat.le_refl _) _).setCell (Nat.le_refl _) _)
                · as_aux_lemma =>
                    have R0 := ok_f HOA.out
                    simp only [Bool.not_true] at R0
                    have R1 : decide (0 < i) = false := by simpa using R0
                    have S0 := ok_f HOB.out
                    simp only [Bool.not_true] at S0
                    have S1 : decide (0 < j) = false := by simpa using S0
                    have E13 := Lib.hid (fun w => enc13H k hk1 hk i j HV.out hl 4 HHL.out HF.out.2.2.1 w)
                    cases bg with
                    | false =>
                      have hq : QQ y k i j cut := fun h => by rw [HGG.out] at h; cases h
                      have HQ := Lib.hid hq; clear hq
                      go_wp2_with (first | (go_at_call 27; refine (E13.out _).mono ?_; rintro e wE ⟨blk, base, cp, rfl, hcp, hrow, hb1⟩; have hbel1 := below_in hbel hbel.size hb1; have hZ1 := z_kept hZ.out hb1; have hI := i_cells hb1; have HBB := Lib.hid hb1; clear hb1; obtain ⟨i0, i1, i2, i3⟩ := cells30 hI; obtain ⟨j0, j1, j2, j3⟩ := froz30 hI; obtain ⟨d0, d1, d2, d3⟩ := cells30 hZ1; obtain ⟨f0, f1, f2, f3⟩ := froz30 hZ1; have HZ1 := Lib.hid hZ1; clear hZ1; have HI := Lib.hid hI; clear hI) | (go_at_call 47; refine (begins34H bb (oo + at_) (cap - at_) blk base _ y (RD.head k i j) hl HHL.out _ (by omega) (HR.out.mono hbel1) hrow).mono ?_; rw [HBG.out]; rintro e w2 ⟨rfl, jj, rfl⟩))
                      go_roundw
                      case rel => exact ⟨j + 1, cut, by omega, by go_num, rfl, below_drewN hbel1 _, Lib.hid HZ1.out, Lib.hid ⟨hS2.out.1, hS2.out.2.1, hS2.out.2.2.succ HQ.out⟩⟩
                      case measure => simp [intOf]; omega
                    | true =>
                      by_cases hsh : y.length < hl + 4
                      · have hq : QQ y k i j true := fun _ => ⟨by rw [HHL.out, HF.out.2.2.1]; exact hsh, rfl⟩
                        have hst : RD.start y := ⟨k, i, j, hk1, hk, HO.out.1, HO.out.2, HBG.out⟩
                        have HQ := Lib.hid hq; clear hq
                        have HST := Lib.hid hst; clear hst
                        have hshd : decide ((y.length : Int) < (hl : Int) + 4) = true := by simp; omega
                        go_wp2_with (first | (go_at_call 27; refine (E13.out _).mono ?_; rintro e wE ⟨blk, base, cp, rfl, hcp, hrow, hb1⟩; have hbel1 := below_in hbel hbel.size hb1; have hZ1 := z_kept hZ.out hb1; have hI := i_cells hb1; have HBB := Lib.hid hb1; clear hb1; obtain ⟨i0, i1, i2, i3⟩ := cells30 hI; obtain ⟨j0, j1, j2, j3⟩ := froz30 hI; obtain ⟨d0, d1, d2, d3⟩ := cells30 hZ1; obtain ⟨f0, f1, f2, f3⟩ := froz30 hZ1; have HZ1 := Lib.hid hZ1; clear hZ1; have HI := Lib.hid hI; clear hI) | (go_at_call 47; refine (begins34H bb (oo + at_) (cap - at_) blk base _ y (RD.head k i j) hl HHL.out _ (by omega) (HR.out.mono hbel1) hrow).mono ?_; rw [HBG.out]; rintro e w2 ⟨rfl, jj, rfl⟩))
                        go_roundw
                        case rel => exact ⟨j + 1, true, by omega, by go_num, rfl, below_drewN hbel1 _, Lib.hid HZ1.out, Lib.hid ⟨hS2.out.1.up HST.out, hS2.out.2.1.up, hS2.out.2.2.up.succ HQ.out⟩⟩
                        case measure => simp [intOf]; omega
                      · have hat2 := RD.at_of_begins HX.out HO.out.1 HO.out.2 HBG.out (by rw [HHL.out, HF.out.2.2.1]; omega)
                        have hlen2 : (RD.enc k i j (RD.val y (RD.head k i j).length (RD.form k).nb)).length = hl + 4 := by rw [RD.enc_length, HHL.out, HF.out.2.2.1]
                        have hd : RD.Reads y (.ok k i j (RD.val y hl 4) (hl + 4)) := by
                          have hd0 := RD.Reads.ok hk1 hk hat2
                          rw [hlen2, HHL.out, HF.out.2.2.1] at hd0
                          exact hd0
                        have HD := Lib.hid hd; clear hd hat2 hlen2
                        have hshd : decide ((y.length : Int) < (hl : Int) + 4) = false := by simp; omega
                        have hN : ∀ t, t < 4 → 0 ≤ y.getD (hl + t) 0 ∧ y.getD (hl + t) 0 ≤ 255 := fun t ht => HX.out _ (getD_mem_int (by omega))
                        obtain ⟨s0, t0⟩ := hN 0 (by omega)
                        have hby0 := HR.out.2 (hl + 0) (by omega)
                        obtain ⟨s1, t1⟩ := hN 1 (by omega)
                        have hby1 := HR.out.2 (hl + 1) (by omega)
                        obtain ⟨s2, t2⟩ := hN 2 (by omega)
                        have hby2 := HR.out.2 (hl + 2) (by omega)
                        obtain ⟨s3, t3⟩ := hN 3 (by omega)
                        have hby3 := HR.out.2 (hl + 3) (by omega)
                        generalize hvn0 : y.getD (hl + 0) 0 = n0 at *
                        have HN0 := Lib.hid hvn0; clear hvn0
                        generalize hvn1 : y.getD (hl + 1) 0 = n1 at *
                        have HN1 := Lib.hid hvn1; clear hvn1
                        generalize hvn2 : y.getD (hl + 2) 0 = n2 at *
                        have HN2 := Lib.hid hvn2; clear hvn2
                        generalize hvn3 : y.getD (hl + 3) 0 = n3 at *
                        have HN3 := Lib.hid hvn3; clear hvn3
                        have z0 : hl < y.length := by omega
                        have z1 : hl + 1 < y.length := by omega
                        have z2 : hl + 2 < y.length := by omega
                        have z3 : hl + 3 < y.length := by omega
                        have v1 : IntKind.i64.wrap ((hl : Int) + 1) = (hl : Int) + 1 := IntWalk.i64_in _ (by omega)
                        have v2 : IntKind.i64.wrap ((hl : Int) + 2) = (hl : Int) + 2 := IntWalk.i64_in _ (by omega)
                        have v3 : IntKind.i64.wrap ((hl : Int) + 3) = (hl : Int) + 3 := IntWalk.i64_in _ (by omega)
                        have c1 : (hl : Int) + 1 < (y.length : Int) := by omega
                        have c2 : (hl : Int) + 2 < (y.length : Int) := by omega
                        have c3 : (hl : Int) + 3 < (y.length : Int) := by omega
                        have c10 : 0 ≤ (hl : Int) + 1 := by omega
                        have c20 : 0 ≤ (hl : Int) + 2 := by omega
                        have c30 : 0 ≤ (hl : Int) + 3 := by omega
                        have u1 : ((hl : Int) + 1).toNat = hl + 1 := by omega
                        have u2 : ((hl : Int) + 2).toNat = hl + 2 := by omega
                        have u3 : ((hl : Int) + 3).toNat = hl + 3 := by omega
                        have qN := or4b n0 n1 n2 n3 (by omega) (by omega) (by omega) (by omega) (by omega) (by omega) (by omega) (by omega)
                        clear hN
                        go_wp2_with (first | (go_at_call 27; refine (E13.out _).mono ?_; rintro e wE ⟨blk, base, cp, rfl, hcp, hrow, hb1⟩; have hbel1 := below_in hbel hbel.size hb1; have HZ1 := Lib.hid (z_kept hZ.out hb1); have HI := Lib.hid (i_cells hb1); have HBB := Lib.hid hb1; clear hb1) | (go_at_call 47; refine (begins34H bb (oo + at_) (cap - at_) blk base _ y (RD.head k i j) hl HHL.out _ (by omega) (HR.out.mono hbel1) hrow).mono ?_; rw [HBG.out]; rintro e w2 ⟨rfl, jj, hw2⟩; have hh : w2.heap = wE.heap := (by rw [hw2]; rfl); have hbel2 : Below w.heap.size w w2 := (by rw [hw2]; exact below_drewN hbel1 _); have hI := HI.out; have hZ2 := HZ1.out; rw [← hh] at hI hZ2; have HI2 := Lib.hid hI; have HZ2 := Lib.hid hZ2; have HW2 := Lib.hid hw2; clear hI hZ2 hh hw2; have y0 : w2.cell? ⟨bb, oo + at_ + hl, none⟩ = some (.int .u8 n0) := (hbel2.cell HR.out.1).trans hby0; have y1 : w2.cell? ⟨bb, oo + at_ + (hl + 1), none⟩ = some (.int .u8 n1) := (hbel2.cell HR.out.1).trans hby1; have y2 : w2.cell? ⟨bb, oo + at_ + (hl + 2), none⟩ = some (.int .u8 n2) := (hbel2.cell HR.out.1).trans hby2; have y3 : w2.cell? ⟨bb, oo + at_ + (hl + 3), none⟩ = some (.int .u8 n3) := (hbel2.cell HR.out.1).trans hby3))
                        go_still_tail 31, (by kernel_rfl)
                        repeat (first | still_step | (refine wpStill_step (fun K hK => ?_); go_simp; go_bits; refine hK _ ?_; clear hK K))
                        try refine wpStill_nil ?_
                        change wpList _ _ _ _ _ w2.drew
                        have hbel3 : Below w.heap.size w w2.drew := hbel2.drew
                        have hI3 := HI2.out
                        have hZ3 := HZ2.out
                        change w2.drew.heap[_]? = _ at hI3
                        change w2.drew.heap[_]? = _ at hZ3
                        clear y0 y1 y2 y3
                        generalize w2.drew = w3 at *
                        obtain ⟨i0, i1, i2, i3⟩ := cells30 hI3
                        obtain ⟨j0, j1, j2, j3⟩ := froz30 hI3
                        obtain ⟨d0, d1, d2, d3⟩ := cells30 hZ3
                        obtain ⟨f0, f1, f2, f3⟩ := froz30 hZ3
                        have HI3 := Lib.hid hI3; have HZ3 := Lib.hid hZ3; clear hI3 hZ3
                        go_wp2_with fail
                        have hv9 : RD.val y hl 4 = (RD.s32 (n0 + 256 * n1 + 65536 * n2 + 16777216 * n3)) := by rw [← HN0.out, ← HN1.out, ← HN2.out, ← HN3.out]; rfl
                        have hz9 : (w3.setCell ⟨wr.heap.size, 3, none⟩ (.int .i32 (RD.s32 (n0 + 256 * n1 + 65536 * n2 + 16777216 * n3)))).heap[w.heap.size]? = some Z30 := (Below.heap_setCell _ _ _ _ (by simp; omega)).trans HZ3.out
                        obtain ⟨g0, g1, g2, g3⟩ := cells30 (fin30 hz9 (.int .i64 (k : Int)) (.int .i64 (i : Int)) (.int .i64 (j : Int)) (.int .i32 (RD.s32 (n0 + 256 * n1 + 65536 * n2 + 16777216 * n3))))
                        refine bodyPost_ret (v := decV (.ok k i j (RD.s32 (n0 + 256 * n1 + 65536 * n2 + 16777216 * n3)) (hl + 4))) (by simp [decV, results, results20, go_sem, g0, g1, g2, g3]) rfl ⟨⟨.ok k i j (RD.s32 (n0 + 256 * n1 + 65536 * n2 + 16777216 * n3)) (hl + 4), (by rw [← hv9]; exact HD.out), rfl⟩, ?_⟩
                        exact (((((hbel3.setCell (by have := hbel.size; simp; omega) _).setCell (Nat.le_refl _) _).setCell (Nat.le_refl _) _).setCell (Nat.le_refl _) _).setCell (Nat.le_refl _) _)
                · as_aux_lemma =>
                    have R0 := ok_f HOA.out
                    simp only [Bool.not_true] at R0
                    have R1 : decide (0 < i) = false := by simpa using R0
                    have S0 := ok_f HOB.out
                    simp only [Bool.not_true] at S0
                    have S1 : decide (0 < j) = false := by simpa using S0
                    have hone : hl = 1 := by rw [← HHL.out]; exact head26 (by have h : (k : Int) = 26 := (by simpa using e4); omega) i j
                    subst hone
                    have E13 := Lib.hid (fun w => enc13H k hk1 hk i j HV.out 1 1 HHL.out HF.out.2.2.1 w)
                    cases bg with
                    | false =>
                      have hq : QQ y k i j cut := fun h => by rw [HGG.out] at h; cases h
                      have HQ := Lib.hid hq; clear hq
                      go_wp2_with (first | (go_at_call 27; refine (E13.out _).mono ?_; rintro e wE ⟨blk, base, cp, rfl, hcp, hrow, hb1⟩; have hbel1 := below_in hbel hbel.size hb1; have hZ1 := z_kept hZ.out hb1; have hI := i_cells hb1; have HBB := Lib.hid hb1; clear hb1; obtain ⟨i0, i1, i2, i3⟩ := cells30 hI; obtain ⟨j0, j1, j2, j3⟩ := froz30 hI; obtain ⟨d0, d1, d2, d3⟩ := cells30 hZ1; obtain ⟨f0, f1, f2, f3⟩ := froz30 hZ1; have HZ1 := Lib.hid hZ1; clear hZ1; have HI := Lib.hid hI; clear hI) | (go_at_call 47; refine (begins34H bb (oo + at_) (cap - at_) blk base _ y (RD.head k i j) 1 HHL.out _ (by omega) (HR.out.mono hbel1) hrow).mono ?_; rw [HBG.out]; rintro e w2 ⟨rfl, jj, rfl⟩))
                      go_roundw
                      case rel => exact ⟨j + 1, cut, by omega, by go_num, rfl, below_drewN hbel1 _, Lib.hid HZ1.out, Lib.hid ⟨hS2.out.1, hS2.out.2.1, hS2.out.2.2.succ HQ.out⟩⟩
                      case measure => simp [intOf]; omega
                    | true =>
                      by_cases hsh : y.length < 1 + 1
                      · have hq : QQ y k i j true := fun _ => ⟨by rw [HHL.out, HF.out.2.2.1]; exact hsh, rfl⟩
                        have hst : RD.start y := ⟨k, i, j, hk1, hk, HO.out.1, HO.out.2, HBG.out⟩
                        have HQ := Lib.hid hq; clear hq
                        have HST := Lib.hid hst; clear hst
                        have hshd : decide ((y.length : Int) < 2) = true := by simp; omega
                        go_wp2_with (first | (go_at_call 27; refine (E13.out _).mono ?_; rintro e wE ⟨blk, base, cp, rfl, hcp, hrow, hb1⟩; have hbel1 := below_in hbel hbel.size hb1; have hZ1 := z_kept hZ.out hb1; have hI := i_cells hb1; have HBB := Lib.hid hb1; clear hb1; obtain ⟨i0, i1, i2, i3⟩ := cells30 hI; obtain ⟨j0, j1, j2, j3⟩ := froz30 hI; obtain ⟨d0, d1, d2, d3⟩ := cells30 hZ1; obtain ⟨f0, f1, f2, f3⟩ := froz30 hZ1; have HZ1 := Lib.hid hZ1; clear hZ1; have HI := Lib.hid hI; clear hI) | (go_at_call 47; refine (begins34H bb (oo + at_) (cap - at_) blk base _ y (RD.head k i j) 1 HHL.out _ (by omega) (HR.out.mono hbel1) hrow).mono ?_; rw [HBG.out]; rintro e w2 ⟨rfl, jj, rfl⟩))
                        go_roundw
                        case rel => exact ⟨j + 1, true, by omega, by go_num, rfl, below_drewN hbel1 _, Lib.hid HZ1.out, Lib.hid ⟨hS2.out.1.up HST.out, hS2.out.2.1.up, hS2.out.2.2.up.succ HQ.out⟩⟩
                        case measure => simp [intOf]; omega
                      · have hat2 := RD.at_of_begins HX.out HO.out.1 HO.out.2 HBG.out (by rw [HHL.out, HF.out.2.2.1]; omega)
                        have hlen2 : (RD.enc k i j (RD.val y (RD.head k i j).length (RD.form k).nb)).length = 1 + 1 := by rw [RD.enc_length, HHL.out, HF.out.2.2.1]
                        have hd : RD.Reads y (.ok k i j (RD.val y 1 1) (1 + 1)) := by
                          have hd0 := RD.Reads.ok hk1 hk hat2
                          rw [hlen2, HHL.out, HF.out.2.2.1] at hd0
                          exact hd0
                        have HD := Lib.hid hd; clear hd hat2 hlen2
                        have hshd : decide ((y.length : Int) < 2) = false := by simp; omega
                        have z0 : 1 < y.length := by omega
                        have hby0 := HR.out.2 1 (by omega)
                        obtain ⟨s0, t0⟩ := HX.out _ (getD_mem_int (l := y) (i := 1) (by omega))
                        generalize hvn0 : y.getD 1 0 = n0 at *
                        have HN0 := Lib.hid hvn0; clear hvn0
                        go_wp2_with (first | (go_at_call 27; refine (E13.out _).mono ?_; rintro e wE ⟨blk, base, cp, rfl, hcp, hrow, hb1⟩; have hbel1 := below_in hbel hbel.size hb1; have hZ1 := z_kept hZ.out hb1; have hI := i_cells hb1; have HBB := Lib.hid hb1; clear hb1; obtain ⟨i0, i1, i2, i3⟩ := cells30 hI; obtain ⟨j0, j1, j2, j3⟩ := froz30 hI; obtain ⟨d0, d1, d2, d3⟩ := cells30 hZ1; obtain ⟨f0, f1, f2, f3⟩ := froz30 hZ1; have HZ1 := Lib.hid hZ1; clear hZ1; have HI := Lib.hid hI; clear hI; have y0 := (hbel1.cell HR.out.1).trans hby0) | (go_at_call 47; refine (begins34H bb (oo + at_) (cap - at_) blk base _ y (RD.head k i j) 1 HHL.out _ (by omega) (HR.out.mono hbel1) hrow).mono ?_; rw [HBG.out]; rintro e w2 ⟨rfl, jj, rfl⟩))
                        have hv9 : RD.val y 1 1 = n0 := by rw [← HN0.out]; rfl
                        have hz9 : ((wE.drewN jj).setCell ⟨wr.heap.size, 3, none⟩ (.int .i32 n0)).heap[w.heap.size]? = some Z30 := (Below.heap_setCell _ _ _ _ (by simp; omega)).trans HZ1.out
                        obtain ⟨g0, g1, g2, g3⟩ := cells30 (fin30 hz9 (.int .i64 (k : Int)) (.int .i64 (i : Int)) (.int .i64 (j : Int)) (.int .i32 n0))
                        refine bodyPost_ret (v := decV (.ok k i j n0 (1 + 1))) (by simp [decV, results, results20, go_sem, g0, g1, g2, g3]) rfl ⟨⟨.ok k i j n0 (1 + 1), (by rw [← hv9]; exact HD.out), rfl⟩, ?_⟩
                        exact ((((((below_drewN hbel1 _).setCell (by have := hbel.size; simp; omega) _).setCell (Nat.le_refl _) _).setCell (Nat.le_refl _) _).setCell (Nat.le_refl _) _).setCell (Nat.le_refl _) _)
            · obtain rfl : j = 16 := by omega
              go_wp2_with fail
              go_roundw
              case rel => exact ⟨i + 1, cut, by omega, by go_num, rfl, hbel, hZ, Lib.hid ⟨hS2.out.1, S1.succ hS2.out.2.1 hS2.out.2.2⟩⟩
              case measure => simp [intOf]; omega
        · obtain rfl : i = 16 := by omega
          go_wp2_with fail
          go_roundw
          case rel => exact ⟨k + 1, cut, by omega, by omega, by go_num, rfl, hbel, hZ, Lib.hid (S0.succ hS1.out.1 hS1.out.2)⟩
          case measure => simp [intOf]; omega
    · obtain rfl : k = 27 := by omega
      have hZ1 := hZ.out
      obtain ⟨d0, d1, d2, d3⟩ := cells30 hZ1; obtain ⟨f0, f1, f2, f3⟩ := froz30 hZ1; have HZ1 := Lib.hid hZ1; clear hZ1
      have hd := S0.done HX.out hS0.out
      have HD := Lib.hid hd; clear hd
      cases cut with
      | true =>
        go_wp2_with fail
        obtain ⟨g0, g1, g2, g3⟩ := cells30 (fin30 (w := wr) HZ1.out (.int .i64 0) (.int .i64 0) (.int .i64 0) (.int .i32 0))
        refine bodyPost_ret (v := decV (.err 10)) (by simp [decV, results, results20, go_sem, g0, g1, g2, g3]) rfl ⟨⟨_, HD.out, rfl⟩, ?_⟩
        exact ((((hbel.setCell (Nat.le_refl _) _).setCell (Nat.le_refl _) _).setCell (Nat.le_refl _) _).setCell (Nat.le_refl _) _)
      | false =>
        go_wp2_with fail
        obtain ⟨g0, g1, g2, g3⟩ := cells30 (fin30 (w := wr) HZ1.out (.int .i64 0) (.int .i64 0) (.int .i64 0) (.int .i32 0))
        refine bodyPost_ret (v := decV (.err 12)) (by simp [decV, results, results20, go_sem, g0, g1, g2, g3]) rfl ⟨⟨_, HD.out, rfl⟩, ?_⟩
        exact ((((hbel.setCell (Nat.le_refl _) _).setCell (Nat.le_refl _) _).setCell (Nat.le_refl _) _).setCell (Nat.le_refl _) _)
end Go.Proofs.Ytpcocfdgcihpdaa.rdw
