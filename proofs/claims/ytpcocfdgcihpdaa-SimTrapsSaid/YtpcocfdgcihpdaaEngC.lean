/-
  THE ENGINE, PART C: what a value of the evaluator says of a value of the model; the evaluator's small steps told.
-/
import Derived.Test.YtpcocfdgcihpdaaEngB
import Derived.Laws.Cells
import Derived.Laws.Append
import Derived.Laws.IdiomCopy
import Derived.Laws.StructEq
import Derived.Laws.BytesString
import Derived.Lib.ConvBytes
import Derived.Laws.Tables
import Derived.Laws.MakeOwn
import Derived.Laws.Pointers
import Derived.Scope
namespace Go.Proofs.Ytpcocfdgcihpdaa.Eng
open Go
set_option linter.unusedVariables false
set_option linter.unusedSimpArgs false

/-! ### nodes -/
theorem upd_eq {α β : Type} (d : D8) (x : α) (k : N8 α → Option β) (n : N8 α) : N8.upd d x k n = k (N8.set x d n) := by
  cases n; cases d <;> rfl
theorem sel_set {α : Type} (d e : D8) (x : α) (n : N8 α) : N8.sel e (N8.set x d n) = if e = d then x else N8.sel e n := by
  cases n; cases d <;> cases e <;> rfl
theorem D8.toNat_lt (d : D8) : d.toNat < 8 := by cases d <;> decide
theorem D8.toNat_inj {d e : D8} (h : d.toNat = e.toNat) : d = e := by cases d <;> cases e <;> first | rfl | (simp [D8.toNat] at h)
theorem D8.toNat_fromNat (n : Nat) (h : n < 8) : (D8.fromNat n).toNat = n := by
  match n, h with
  | 0, _ => rfl | 1, _ => rfl | 2, _ => rfl | 3, _ => rfl | 4, _ => rfl | 5, _ => rfl | 6, _ => rfl | 7, _ => rfl
theorem P3.toNat_inj {p q : P3} (h : p.toNat = q.toNat) : p = q := by
  have a := p.x.toNat_lt; have b := p.y.toNat_lt; have c := p.z.toNat_lt
  have a' := q.x.toNat_lt; have b' := q.y.toNat_lt; have c' := q.z.toNat_lt
  unfold P3.toNat at h
  have h1 : p.x = q.x := D8.toNat_inj (by omega)
  have h2 : p.y = q.y := D8.toNat_inj (by omega)
  have h3 : p.z = q.z := D8.toNat_inj (by omega)
  cases p; cases q; simp_all
theorem P3.toNat_ofNat (n : Nat) (h : n < 512) : (P3.ofNat n).toNat = n := by
  unfold P3.ofNat P3.toNat
  rw [D8.toNat_fromNat _ (by omega), D8.toNat_fromNat _ (by omega), D8.toNat_fromNat _ (by omega)]; omega
theorem D8.beq_iff (a b : D8) : a.beq b = true ↔ a = b := by
  unfold D8.beq; rw [Nat.beq_eq]
  exact ⟨D8.toNat_inj, fun h => by rw [h]⟩
theorem Bid.beq_iff (a b : Bid) : a.beq b = true ↔ a = b := by
  cases a; cases b
  simp only [Bid.beq, Bool.and_eq_true, D8.beq_iff, Bid.mk.injEq]
  constructor
  · rintro ⟨h1, h2, h3, h4, h5⟩; exact ⟨h5, h4, h3, h2, h1⟩
  · rintro ⟨h1, h2, h3, h4, h5⟩; exact ⟨h5, h4, h3, h2, h1⟩

theorem Tm.putK_eq {β : Type} (p : P3) (v : AV) (t : Tm) (k : Tm → Option β) : Tm.putK p v t k = k (t.put p v) := by
  cases p; simp only [Tm.putK, Tm.putP, upd_eq, Tm.put]
theorem Tm.get_put (p q : P3) (v : AV) (t : Tm) : (t.put p v).get q = if q = p then v else t.get q := by
  obtain ⟨x, y, z⟩ := p; obtain ⟨x', y', z'⟩ := q
  simp only [Tm.put, Tm.get, sel_set, P3.mk.injEq]
  by_cases hx : x' = x
  · subst hx
    by_cases hy : y' = y
    · subst hy
      by_cases hz : z' = z
      · subst hz; simp [sel_set]
      · simp [sel_set, hz]
    · simp [sel_set, hy]
  · simp [hx]
theorem Hp.putK_eq {β : Type} (b : Bid) (o : AObj) (h : Hp) (k : Hp → Option β) : Hp.putK b o h k = k (h.put b o) := by
  cases b; simp only [Hp.putK, Hp.putP, upd_eq, Hp.put]
theorem Hp.get_put (b c : Bid) (o : AObj) (h : Hp) : (h.put b o).get c = if c = b then o else h.get c := by
  obtain ⟨x, y, z, u, v⟩ := b; obtain ⟨x', y', z', u', v'⟩ := c
  simp only [Hp.put, Hp.get, sel_set, Bid.mk.injEq]
  by_cases hx : x' = x
  · subst hx
    by_cases hy : y' = y
    · subst hy
      by_cases hz : z' = z
      · subst hz
        by_cases hu : u' = u
        · subst hu
          by_cases hv : v' = v
          · subst hv; simp [sel_set]
          · simp [sel_set, hv]
        · simp [sel_set, hu]
      · simp [sel_set, hz]
    · simp [sel_set, hy]
  · simp [hx]
theorem sel_all {α : Type} (d : D8) (a : α) : N8.sel d ⟨a, a, a, a, a, a, a, a⟩ = a := by cases d <;> rfl
theorem f5_get (b : Bid) : f5.get b = .no := by
  obtain ⟨x, y, z, u, v⟩ := b
  simp only [Hp.get, f5, f4, f3, f2, f1, sel_all]
theorem e3_get (p : P3) : e3.get p = .un := by
  obtain ⟨x, y, z⟩ := p
  simp only [Tm.get, e3, e2, e1, sel_all]
theorem succK_ok {β : Type} (b : Bid) (k : Bid → Option β) : ∃ c, Bid.succK b k = k c := by
  obtain ⟨x, y, z, u, v⟩ := b
  unfold Bid.succK
  repeat' (first | exact ⟨_, rfl⟩ | split)

/-! ### numbers and lists, worked out -/
section
variable {α β : Type}
@[simp] theorem natK_eq (n : Nat) (k : Nat → Option β) : natK n k = k n := by cases n <;> rfl
@[simp] theorem intK_eq (n : Int) (k : Int → Option β) : intK n k = k n := by cases n <;> simp [intK]
@[simp] theorem boolK_eq (b : Bool) (k : Bool → Option β) : boolK b k = k b := by cases b <;> rfl
@[simp] theorem avK_eq (v : AV) (k : AV → Option β) : avK v k = k v := by cases v <;> rfl
theorem getK_ok {l : List α} {n : Nat} {k : α → Option β} {r : β} (h : getK l n k = some r) : ∃ a, l[n]? = some a ∧ k a = some r := by
  induction l generalizing n with
  | nil => simp [getK] at h
  | cons a l ih =>
    cases n with
    | zero => exact ⟨a, rfl, h⟩
    | succ n => obtain ⟨b, hb, hk⟩ := ih (n := n) h; exact ⟨b, by simpa using hb, hk⟩
theorem setK_ok {l : List α} {n : Nat} {v : α} {k : List α → Option β} {r : β} (h : setK l n v k = some r) : n < l.length ∧ k (l.set n v) = some r := by
  induction l generalizing n k with
  | nil => simp [setK] at h
  | cons a l ih =>
    cases n with
    | zero => exact ⟨by simp, h⟩
    | succ n => obtain ⟨hb, hk⟩ := ih (n := n) h; exact ⟨by simpa using hb, hk⟩
theorem dropK_ok {n : Nat} {l : List α} {k : List α → Option β} {r : β} (h : dropK n l k = some r) : n ≤ l.length ∧ k (l.drop n) = some r := by
  induction n generalizing l with
  | zero => exact ⟨by simp, h⟩
  | succ n ih =>
    cases l with
    | nil => simp [dropK] at h
    | cons a l => obtain ⟨h1, h2⟩ := ih (l := l) h; exact ⟨by simpa using h1, h2⟩
theorem takeK_ok {n : Nat} {l : List α} {k : List α → Option β} {r : β} (h : takeK n l k = some r) : n ≤ l.length ∧ k (l.take n) = some r := by
  induction n generalizing l k with
  | zero => exact ⟨by simp, h⟩
  | succ n ih =>
    cases l with
    | nil => simp [takeK] at h
    | cons a l => obtain ⟨h1, h2⟩ := ih (l := l) h; exact ⟨by simpa using h1, h2⟩
theorem appK_eq (l m : List α) (k : List α → Option β) : appK l m k = k (l ++ m) := by
  induction l generalizing k with
  | nil => rfl
  | cons a l ih => simp [appK, ih]
/-- the list with some of its places put over -/
def over (l : List α) (o : Nat) (m : List α) : List α := l.take o ++ (m ++ l.drop (o + m.length))
theorem overK_ok {l : List α} {o : Nat} {m : List α} {k : List α → Option β} {r : β} (h : overK l o m k = some r) : o + m.length ≤ l.length ∧ k (over l o m) = some r := by
  induction o generalizing l k with
  | zero =>
    rw [overK.eq_def] at h
    simp only at h
    obtain ⟨h1, h2⟩ := dropK_ok h
    rw [appK_eq] at h2
    refine ⟨by omega, ?_⟩
    simp only [over, List.take_zero, List.nil_append, Nat.zero_add]; exact h2
  | succ o ih =>
    cases l with
    | nil => simp [overK] at h
    | cons a l =>
      obtain ⟨h1, h2⟩ := ih (l := l) h
      refine ⟨by simp; omega, ?_⟩
      have e : o + 1 + m.length = (o + m.length) + 1 := by omega
      simp only [over, List.take_succ_cons, List.cons_append, e, List.drop_succ_cons]; exact h2
theorem repK_eq (n : Nat) (z : List α) (k : List α → Option β) : repK n z k = k ((List.replicate n z).flatten) := by
  induction n generalizing k with
  | zero => rfl
  | succ n ih => simp only [repK, ih, appK_eq, List.replicate_succ, List.flatten_cons]
theorem eraseK_ok {l : List α} {n : Nat} {k : List α → Option β} {r : β} (h : eraseK l n k = some r) : n < l.length ∧ k (l.eraseIdx n) = some r := by
  induction l generalizing n k with
  | nil => simp [eraseK] at h
  | cons a l ih =>
    cases n with
    | zero => exact ⟨by simp, h⟩
    | succ n => obtain ⟨hb, hk⟩ := ih (n := n) h; exact ⟨by simpa using hb, hk⟩
end

theorem intEq_eq (a b : Int) : intEq a b = (a == b) := by
  cases a <;> cases b <;> simp only [intEq] <;> rw [Bool.eq_iff_iff] <;> simp [Nat.beq_eq]
  omega
theorem intLe_eq (a b : Int) : intLe a b = decide (a ≤ b) := by
  cases a <;> cases b <;> simp only [intLe] <;> rw [Bool.eq_iff_iff] <;> simp only [Nat.ble_eq, decide_eq_true_eq, Int.ofNat_eq_natCast, true_iff, Bool.false_eq_true, false_iff] <;> omega
theorem intLt_eq (a b : Int) : intLt a b = decide (a < b) := by
  unfold intLt; rw [intLe_eq, Bool.eq_iff_iff]; simp
theorem kindEq_iff (a b : IntKind) : kindEq a b = true ↔ a = b := by cases a <;> cases b <;> simp [kindEq, kindCode]
theorem strEq_eq (a b : List Nat) : strEq a b = (a == b) := by
  induction a generalizing b with
  | nil => cases b <;> rfl
  | cons x a ih => cases b with
    | nil => rfl
    | cons y b =>
      simp only [strEq, ih]
      rw [Bool.eq_iff_iff]; simp [Nat.beq_eq]

theorem wrapSlow_eq {β : Type} (kd : IntKind) (n : Int) (k : Int → Option β) : wrapSlow kd n k = k (kd.wrap n) := by simp [wrapSlow]
theorem wrap_pos (kd : IntKind) (m : Nat) (h : m ≤ hiOf kd) : kd.wrap (m : Int) = (m : Int) := by
  cases kd <;> simp only [hiOf] at h
  · exact IntWalk.i8_in _ (by omega)
  · exact IntWalk.i16_in _ (by omega)
  · exact IntWalk.i32_in _ (by omega)
  · exact IntWalk.i64_in _ (by omega)
  · exact IntWalk.u8_in _ (by omega)
  · exact IntWalk.u16_in _ (by omega)
  · exact IntWalk.u32_in _ (by omega)
  · exact IntWalk.u64_in _ (by omega)
theorem wrap_neg (kd : IntKind) (m : Nat) (h0 : kd.signed = true) (h : m ≤ hiOf kd) : kd.wrap (Int.negSucc m) = Int.negSucc m := by
  cases kd <;> simp only [hiOf] at h
  · exact IntWalk.i8_in _ (by omega)
  · exact IntWalk.i16_in _ (by omega)
  · exact IntWalk.i32_in _ (by omega)
  · exact IntWalk.i64_in _ (by omega)
  · cases h0
  · cases h0
  · cases h0
  · cases h0
theorem wrapPos_eq {β : Type} (kd : IntKind) (m : Nat) (k : Int → Option β) : wrapPos kd m k = k (kd.wrap (.ofNat m)) := by
  unfold wrapPos
  split
  · rename_i h
    rw [Nat.ble_eq] at h
    rw [Int.ofNat_eq_natCast, wrap_pos kd m h]
  · exact wrapSlow_eq _ _ _
theorem wrapNeg_eq {β : Type} (kd : IntKind) (m : Nat) (k : Int → Option β) : wrapNeg kd m k = k (kd.wrap (.negSucc m)) := by
  unfold wrapNeg
  split
  · rename_i h
    rw [Bool.and_eq_true, Nat.ble_eq] at h
    obtain ⟨h0, h⟩ := h
    rw [wrap_neg kd m h0 h]
  · exact wrapSlow_eq _ _ _
@[simp] theorem wrapK_eq {β : Type} (kd : IntKind) (n : Int) (k : Int → Option β) : wrapK kd n k = k (kd.wrap n) := by
  cases n with
  | ofNat m => simp [wrapK, wrapPos_eq]
  | negSucc m => simp [wrapK, wrapNeg_eq]

/-! ### the relation -/
structure Loc where
  blk : Nat
  base : Nat
  cap : Nat
abbrev Inj := Bid → Option Loc
def SlRel (l : Loc) (o n : Nat) : Cap → Value → Prop
  | .ex c, v => v = .slice (some ⟨l.blk, l.base + o, none⟩) n c
  | .op g, v => v = .slice (some ⟨l.blk, l.base + o, none⟩) n (l.cap - g) ∧ g + n ≤ l.cap
  | .em, v => n = 0 ∧ ∃ a c, v = .slice (some a) 0 c

mutual
def VRel (μ : Inj) : AV → Value → Prop
  | .un, _ => True
  | .bool b, v => v = .bool b
  | .int k n, v => v = .int k n
  | .sint k n _, v => v = .int k n
  | .nz k n _, v => v = .int k n ∧ n ≠ 0
  | .sbool b _, v => v = .bool b
  | .str s, v => ∃ t : ByteArray, v = .string t ∧ t.data.toList.map UInt8.toNat = s
  | .ptr b o, v => ∃ l, μ b = some l ∧ v = .pointer (some ⟨l.blk, l.base + o, none⟩)
  | .nilp, v => v = .pointer none
  | .slice b o n c, v => ∃ l, μ b = some l ∧ SlRel l o n c v
  | .nils, v => v = .slice none 0 0
  | .map b, v => ∃ l, μ b = some l ∧ v = .map (some l.blk)
  | .nilm, v => v = .map none
  | .func fn a b, v => ∃ x y : Array Value, v = .func fn x y ∧ VRels μ a x.toList ∧ VRels μ b y.toList
  | .nilf, v => v = .nilFunc
  | .iface t a, v => ∃ x, v = .iface t x ∧ VRel μ a x
  | .nili, v => v = .nilIface
  | .agg l, v => ∃ cs : Array Value, v = .agg cs ∧ VRels μ l cs.toList
  | .tup l, v => ∃ cs : Array Value, v = .tuple cs ∧ VRels μ l cs.toList
def VRels (μ : Inj) : List AV → List Value → Prop
  | [], vs => vs = []
  | a :: l, vs => ∃ v r, vs = v :: r ∧ VRel μ a v ∧ VRels μ l r
end

def Le (μ ν : Inj) : Prop := ∀ b l, μ b = some l → ν b = some l
theorem Le.refl (μ : Inj) : Le μ μ := fun _ _ h => h
theorem Le.trans {a b c : Inj} (h : Le a b) (k : Le b c) : Le a c := fun x l hx => k x l (h x l hx)

mutual
theorem VRel.mono {μ ν : Inj} (h : Le μ ν) : ∀ (a : AV) (v : Value), VRel μ a v → VRel ν a v
  | .un, _, _ => by simp [VRel]
  | .bool _, _, hv => by simpa only [VRel] using hv
  | .int _ _, _, hv => by simpa only [VRel] using hv
  | .sint _ _ _, _, hv => by simpa only [VRel] using hv
  | .nz _ _ _, _, hv => by simpa only [VRel] using hv
  | .sbool _ _, _, hv => by simpa only [VRel] using hv
  | .str _, _, hv => by simpa only [VRel] using hv
  | .ptr b o, v, hv => by simp only [VRel] at hv ⊢; obtain ⟨l, h1, h2⟩ := hv; exact ⟨l, h b l h1, h2⟩
  | .nilp, _, hv => by simpa only [VRel] using hv
  | .slice b o n c, v, hv => by simp only [VRel] at hv ⊢; obtain ⟨l, h1, h2⟩ := hv; exact ⟨l, h b l h1, h2⟩
  | .nils, _, hv => by simpa only [VRel] using hv
  | .map b, v, hv => by simp only [VRel] at hv ⊢; obtain ⟨l, h1, h2⟩ := hv; exact ⟨l, h b l h1, h2⟩
  | .nilm, _, hv => by simpa only [VRel] using hv
  | .func fn a b, v, hv => by
    simp only [VRel] at hv ⊢; obtain ⟨x, y, h1, h2, h3⟩ := hv
    exact ⟨x, y, h1, VRels.mono h a _ h2, VRels.mono h b _ h3⟩
  | .nilf, _, hv => by simpa only [VRel] using hv
  | .iface t a, v, hv => by simp only [VRel] at hv ⊢; obtain ⟨x, h1, h2⟩ := hv; exact ⟨x, h1, VRel.mono h a _ h2⟩
  | .nili, _, hv => by simpa only [VRel] using hv
  | .agg l, v, hv => by simp only [VRel] at hv ⊢; obtain ⟨x, h1, h2⟩ := hv; exact ⟨x, h1, VRels.mono h l _ h2⟩
  | .tup l, v, hv => by simp only [VRel] at hv ⊢; obtain ⟨x, h1, h2⟩ := hv; exact ⟨x, h1, VRels.mono h l _ h2⟩
theorem VRels.mono {μ ν : Inj} (h : Le μ ν) : ∀ (a : List AV) (v : List Value), VRels μ a v → VRels ν a v
  | [], _, hv => by simpa only [VRels] using hv
  | a :: l, v, hv => by
    simp only [VRels] at hv ⊢; obtain ⟨x, r, h1, h2, h3⟩ := hv
    exact ⟨x, r, h1, VRel.mono h a _ h2, VRels.mono h l _ h3⟩
end

theorem VRels.length {μ : Inj} : ∀ {a : List AV} {v : List Value}, VRels μ a v → a.length = v.length
  | [], _, h => by simp only [VRels] at h; subst h; rfl
  | _ :: l, _, h => by simp only [VRels] at h; obtain ⟨x, r, rfl, _, h3⟩ := h; simp [VRels.length h3]
theorem VRels.get {μ : Inj} : ∀ {a : List AV} {v : List Value}, VRels μ a v → ∀ {n : Nat} {x : AV}, a[n]? = some x → ∃ y, v[n]? = some y ∧ VRel μ x y
  | [], _, h, n, x, hx => by simp at hx
  | a :: l, _, h, n, x, hx => by
    simp only [VRels] at h; obtain ⟨y, r, rfl, h2, h3⟩ := h
    cases n with
    | zero => simp at hx; subst hx; exact ⟨y, rfl, h2⟩
    | succ n => simp at hx; obtain ⟨z, hz, hr⟩ := VRels.get h3 hx; exact ⟨z, by simpa using hz, hr⟩
theorem VRels.app {μ : Inj} : ∀ {a b : List AV} {v w : List Value}, VRels μ a v → VRels μ b w → VRels μ (a ++ b) (v ++ w)
  | [], _, _, _, h, k => by simp only [VRels] at h; subst h; simpa using k
  | a :: l, _, _, _, h, k => by
    simp only [VRels] at h; obtain ⟨y, r, rfl, h2, h3⟩ := h
    simp only [List.cons_append, VRels]; exact ⟨y, _, rfl, h2, VRels.app h3 k⟩
theorem VRels.drop {μ : Inj} : ∀ {a : List AV} {v : List Value} (n : Nat), VRels μ a v → VRels μ (a.drop n) (v.drop n)
  | _, _, 0, h => by simpa using h
  | [], _, n + 1, h => by simp only [VRels] at h; subst h; simp [VRels]
  | a :: l, _, n + 1, h => by simp only [VRels] at h; obtain ⟨y, r, rfl, h2, h3⟩ := h; simpa using VRels.drop n h3
theorem VRels.take {μ : Inj} : ∀ {a : List AV} {v : List Value} (n : Nat), VRels μ a v → VRels μ (a.take n) (v.take n)
  | _, _, 0, h => by simp [VRels]
  | [], _, n + 1, h => by simp only [VRels] at h; subst h; simp [VRels]
  | a :: l, _, n + 1, h => by simp only [VRels] at h; obtain ⟨y, r, rfl, h2, h3⟩ := h; simp only [List.take_succ_cons, VRels]; exact ⟨y, _, rfl, h2, VRels.take n h3⟩
theorem VRels.over {μ : Inj} {a b : List AV} {v w : List Value} (o : Nat) (h : VRels μ a v) (k : VRels μ b w) : VRels μ (over a o b) (over v o w) := by
  unfold Eng.over; rw [← k.length]; exact (h.take o).app (k.app (h.drop _))
theorem VRels.flat {μ : Inj} {a : List AV} {v : List Value} (h : VRels μ a v) : ∀ n, VRels μ ((List.replicate n a).flatten) ((List.replicate n v).flatten)
  | 0 => by simp [VRels]
  | n + 1 => by simp only [List.replicate_succ, List.flatten_cons]; exact h.app (h.flat n)
theorem VRels.repl {μ : Inj} {a : List AV} {v : List Value} (h : VRels μ a v) : ∀ n, VRels μ (repL n a) ((List.replicate n v).flatten)
  | 0 => by simp [VRels, repL]
  | n + 1 => by simp only [List.replicate_succ, List.flatten_cons, repL]; exact h.app (h.repl n)

/-! ### what is not worked out -/
theorem symFork_ok {β : Type} {g : Nat} {b : Bool} {x y : Option β} {r : β} (h : symFork g b x y = some r) : (b = true ∧ x = some r) ∨ (b = false ∧ y = some r) := by
  unfold symFork tagB at h
  split at h
  · cases b
    · exact .inr ⟨rfl, h⟩
    · exact .inl ⟨rfl, h⟩
  · cases b
    · cases h
    · exact .inl ⟨rfl, h⟩
  · cases b
    · exact .inr ⟨rfl, h⟩
    · cases h
theorem forkB_ok {β : Type} {μ : Inj} {r : β} : ∀ {l : List AV} {vs : List Value} {k : List AV → Option β}, VRels μ l vs → forkB l k = some r → ∃ l', VRels μ l' vs ∧ k l' = some r
  | [], vs, k, hv, h => ⟨[], hv, h⟩
  | a :: l, vs, k, hv, h => by
    simp only [VRels] at hv
    obtain ⟨v, vs, rfl, h1, h2⟩ := hv
    unfold forkB at h
    split at h
    · simp only [VRel] at h1; subst h1
      rcases symFork_ok h with ⟨e, h'⟩ | ⟨e, h'⟩
      · obtain ⟨l', h3, h4⟩ := forkB_ok h2 h'
        exact ⟨.bool true :: l', by simp only [VRels, VRel]; exact ⟨_, _, rfl, by rw [e], h3⟩, h4⟩
      · obtain ⟨l', h3, h4⟩ := forkB_ok h2 h'
        exact ⟨.bool false :: l', by simp only [VRels, VRel]; exact ⟨_, _, rfl, by rw [e], h3⟩, h4⟩
    · obtain ⟨l', h3, h4⟩ := forkB_ok h2 h
      exact ⟨_, by simp only [VRels]; exact ⟨_, _, rfl, h1, h3⟩, h4⟩
theorem forkI_ok {β : Type} {r : β} {g : Nat} : ∀ {n : Nat} {i : Int} {k : Nat → Option β}, forkI g n i k = some r → ∃ j : Nat, j < n ∧ i = (j : Int) ∧ k j = some r
  | 0, i, k, h => by simp [forkI] at h
  | n + 1, i, k, h => by
    rcases symFork_ok h with ⟨h1, h⟩ | ⟨_, h⟩
    · exact ⟨n, by omega, by simpa using h1, h⟩
    · obtain ⟨j, h1, h2, h3⟩ := forkI_ok h; exact ⟨j, by omega, h2, h3⟩
theorem intOf_ok {β : Type} {μ : Inj} {r : β} {a : AV} {v : Value} {k : IntKind → Int → Nat → Option β} (hv : VRel μ a v) (h : intOf a k = some r) : ∃ kd n g, v = .int kd n ∧ k kd n g = some r := by
  unfold intOf at h
  split at h
  · simp only [VRel] at hv; exact ⟨_, _, _, hv, h⟩
  · simp only [VRel] at hv; exact ⟨_, _, _, hv, h⟩
  · simp only [VRel] at hv; exact ⟨_, _, _, hv.1, h⟩
  · cases h
theorem truthOf_ok {β : Type} {μ : Inj} {r : β} {a : AV} {v : Value} {k : Bool → Nat → Option β} (hv : VRel μ a v) (h : truthOf a k = some r) : ∃ b g, v = .bool b ∧ k b g = some r := by
  unfold truthOf at h
  split at h
  · simp only [VRel] at hv; exact ⟨_, _, hv, h⟩
  · simp only [VRel] at hv; exact ⟨_, _, hv, h⟩
  · cases h

/-! ### memory -/
def unfrozen (n : Nat) (fr : Nat × Nat) : Prop := ∀ i, i < n → ¬ (fr.1 ≤ i ∧ i < fr.2)

def ERels (μ : Inj) : List (AV × AV × Nat) → List MapEntry → Prop
  | [], es => es = []
  | (k, v, n) :: l, es => ∃ e r, es = e :: r ∧ VRel μ k e.key ∧ VRel μ v e.val ∧ e.born = n ∧ ERels μ l r
theorem ERels.mono {μ ν : Inj} (h : Le μ ν) : ∀ (l : List (AV × AV × Nat)) (es : List MapEntry), ERels μ l es → ERels ν l es
  | [], _, hv => by simpa only [ERels] using hv
  | (k, v, n) :: l, es, hv => by
    simp only [ERels] at hv ⊢
    obtain ⟨e, r, h1, h2, h3, h4, h5⟩ := hv
    exact ⟨e, r, h1, VRel.mono h _ _ h2, VRel.mono h _ _ h3, h4, ERels.mono h l _ h5⟩

def ObjRel (μ : Inj) (w : World) (l : Loc) : AObj → Prop
  | .no => False
  | .dead => True
  | .cells c => l.base = 0 ∧ ∃ (arr : Array Value) (t : TypeId), w.heap[l.blk]? = some (.cells arr t (0, 0)) ∧ VRels μ c arr.toList
  | .opn c sz => ∃ (arr : Array Value) (t : TypeId) (fr : Nat × Nat), w.heap[l.blk]? = some (.cells arr t fr) ∧ unfrozen arr.size fr ∧ l.base + l.cap * sz ≤ arr.size ∧
      VRels μ c ((arr.toList.drop l.base).take c.length)
  | .map es clock => ∃ ents : Array MapEntry, w.heap[l.blk]? = some (.map ents clock) ∧ ERels μ es ents.toList

def live : AObj → Bool
  | .no => false
  | .dead => false
  | _ => true

theorem ObjRel.mono {μ ν : Inj} (h : Le μ ν) {w : World} {l : Loc} {o : AObj} (hr : ObjRel μ w l o) : ObjRel ν w l o := by
  cases o with
  | no => exact hr
  | dead => trivial
  | cells c => obtain ⟨h1, arr, t, h2, h3⟩ := hr; exact ⟨h1, arr, t, h2, h3.mono h⟩
  | opn c sz => obtain ⟨arr, t, fr, h2, h3, h4, h5⟩ := hr; exact ⟨arr, t, fr, h2, h3, h4, h5.mono h⟩
  | map es c => obtain ⟨ents, h2, h3⟩ := hr; exact ⟨ents, h2, h3.mono h⟩
/-- it hangs on the block alone -/
theorem ObjRel.of_block {μ : Inj} {w w' : World} {l : Loc} {o : AObj} (hr : ObjRel μ w l o) (hb : live o = true → w'.heap[l.blk]? = w.heap[l.blk]?) : ObjRel μ w' l o := by
  cases o with
  | no => exact hr
  | dead => trivial
  | cells c => have := hb rfl; obtain ⟨h1, arr, t, h2, h3⟩ := hr; exact ⟨h1, arr, t, this.trans h2, h3⟩
  | opn c sz => have := hb rfl; obtain ⟨arr, t, fr, h2, h3, h4, h5⟩ := hr; exact ⟨arr, t, fr, this.trans h2, h3, h4, h5⟩
  | map es c => have := hb rfl; obtain ⟨ents, h2, h3⟩ := hr; exact ⟨ents, this.trans h2, h3⟩
theorem ObjRel.lt {μ : Inj} {w : World} {l : Loc} {o : AObj} (hr : ObjRel μ w l o) (hl : live o = true) : l.blk < w.heap.size := by
  have key : ∀ {x : Obj}, w.heap[l.blk]? = some x → l.blk < w.heap.size := fun {x} hx => by
    rcases Nat.lt_or_ge l.blk w.heap.size with h | h
    · exact h
    · simp [Array.getElem?_eq_none h] at hx
  cases o with
  | no => simp [live] at hl
  | dead => simp [live] at hl
  | cells c => obtain ⟨h1, arr, t, h2, h3⟩ := hr; exact key h2
  | opn c sz => obtain ⟨arr, t, fr, h2, h3, h4, h5⟩ := hr; exact key h2
  | map es c => obtain ⟨ents, h2, h3⟩ := hr; exact key h2

structure HR (μ : Inj) (g : Bid → AObj) (w : World) : Prop where
  ok : ∀ b l, μ b = some l → ObjRel μ w l (g b)
  inj : ∀ b b' l l', μ b = some l → μ b' = some l' → live (g b) = true → live (g b') = true → l.blk = l'.blk → b = b'

/-- nothing but a draw -/
structure Drew (w w' : World) : Prop where
  heap : w'.heap = w.heap
  os : w'.os = w.os
  tape : w'.tape = w.tape
  output : w'.output = w.output
theorem Drew.refl (w : World) : Drew w w := ⟨rfl, rfl, rfl, rfl⟩
theorem HR.drew {μ : Inj} {g : Bid → AObj} {w w' : World} (h : HR μ g w) (d : Drew w w') : HR μ g w' :=
  ⟨fun b l hb => (h.ok b l hb).of_block (fun _ => by rw [d.heap]), h.inj⟩

/-- the blocks that are in use -/
def Used (μ : Inj) (g : Bid → AObj) (c : Nat) : Prop := ∃ b l, μ b = some l ∧ live (g b) = true ∧ l.blk = c

/-- from one state to the next: names are added alone; what is not in use stays -/
structure Fr (μ : Inj) (g : Bid → AObj) (w : World) (μ' : Inj) (g' : Bid → AObj) (w' : World) : Prop where
  le : Le μ μ'
  new : ∀ b, μ b = none → μ' b ≠ none → g b = .no
  os : w'.os = w.os
  tape : w'.tape = w.tape
  output : w'.output = w.output
  size : w.heap.size ≤ w'.heap.size
  same : ∀ c, c < w.heap.size → ¬ Used μ g c → w'.heap[c]? = w.heap[c]?
  used : ∀ c, Used μ' g' c → Used μ g c ∨ w.heap.size ≤ c
  pres : ∀ b, g b ≠ .no → g' b ≠ .no
theorem Fr.refl (μ : Inj) (g : Bid → AObj) (w : World) : Fr μ g w μ g w :=
  ⟨Le.refl _, fun b h h' => absurd h h', rfl, rfl, rfl, Nat.le_refl _, fun _ _ _ => rfl, fun c h => .inl h, fun _ h => h⟩
theorem Fr.trans {μ1 μ2 μ3 : Inj} {g1 g2 g3 : Bid → AObj} {w1 w2 w3 : World} (h : Fr μ1 g1 w1 μ2 g2 w2) (k : Fr μ2 g2 w2 μ3 g3 w3) : Fr μ1 g1 w1 μ3 g3 w3 where
  le := h.le.trans k.le
  new := fun b hb hb' => by
    cases h2 : μ2 b with
    | none =>
      have := k.new b h2 hb'
      by_cases hg : g1 b = .no
      · exact hg
      · exact absurd this (h.pres b hg)
    | some l => exact h.new b hb (by rw [h2]; simp)
  os := k.os.trans h.os
  tape := k.tape.trans h.tape
  output := k.output.trans h.output
  size := Nat.le_trans h.size k.size
  same := fun c hc hu => by
    rw [k.same c (Nat.lt_of_lt_of_le hc h.size) (fun hu' => by
      rcases h.used c hu' with h1 | h1
      · exact hu h1
      · omega), h.same c hc hu]
  used := fun c hu => by
    rcases k.used c hu with h1 | h1
    · exact h.used c h1
    · exact .inr (Nat.le_trans h.size h1)
  pres := fun b hb => k.pres b (h.pres b hb)
theorem Fr.drew {μ : Inj} {g : Bid → AObj} {w w' : World} (d : Drew w w') : Fr μ g w μ g w' :=
  ⟨Le.refl _, fun b h h' => absurd h h', d.os, d.tape, d.output, by rw [d.heap]; exact Nat.le_refl _, fun c _ _ => by rw [d.heap], fun c h => .inl h, fun _ h => h⟩
end Go.Proofs.Ytpcocfdgcihpdaa.Eng
