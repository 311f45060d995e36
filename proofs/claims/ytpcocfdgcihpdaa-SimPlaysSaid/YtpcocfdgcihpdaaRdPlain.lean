/-
  Chapter 19 in plain Lean: how an instruction is written, how some bytes are read as one. No program in sight.
-/
set_option maxHeartbeats 64000000
set_option maxRecDepth 1000000
set_option linter.unusedVariables false
set_option linter.unusedSimpArgs false
namespace RD
structure Form where
  code : List Int
  a : Bool
  b : Bool
  nb : Nat
  md : Bool
  x : Int
  y : Int
  ld : Bool
def two (c : Int) : Form := ⟨[c], true, true, 0, true, -2, -1, false⟩
def one (c x : Int) : Form := ⟨[c], true, false, 0, true, x, -1, false⟩
def alone (n : Nat) (l : List Int) : Form := ⟨l, false, false, n, false, 0, 0, false⟩
def form : Nat → Form
  | 1 => ⟨[184], true, false, 4, false, 0, -1, false⟩
  | 2 => two 137
  | 3 => ⟨[139], true, false, 4, true, -1, 0, true⟩
  | 4 => ⟨[137], true, false, 4, true, -1, 0, true⟩
  | 5 => two 1
  | 6 => two 9
  | 7 => two 33
  | 8 => two 41
  | 9 => two 49
  | 10 => two 57
  | 11 => ⟨[15, 175], true, true, 0, true, -1, -2, false⟩
  | 12 => one 247 3
  | 13 => alone 0 [153]
  | 14 => one 247 7
  | 15 => one 211 4
  | 16 => one 211 7
  | 17 => one 211 5
  | 18 => alone 4 [233]
  | 19 => alone 4 [15, 132]
  | 20 => alone 4 [15, 133]
  | 21 => alone 4 [15, 140]
  | 22 => alone 4 [15, 141]
  | 23 => alone 4 [15, 142]
  | 24 => alone 4 [15, 143]
  | 25 => alone 0 [195]
  | _ => alone 1 [205]
def reg (n : Int) : Bool := decide (0 ≤ n) && (decide (n ≤ 15) && (!(decide (n = 4)) && !(decide (n = 5))))
def okA (u : Bool) (n : Int) : Bool := bif u then reg n else decide (n = 0)
def okN : Nat → Int → Bool
  | 0, n => decide (n = 0)
  | 1, n => decide (0 ≤ n) && decide (n ≤ 255)
  | _, n => decide (-2147483648 ≤ n) && decide (n ≤ 2147483647)
def valid (op : Nat) (a b n : Int) : Bool := okA (form op).a a && (okA (form op).b b && okN (form op).nb n)
def pick (a b n : Int) : Int := if n = -1 then a else if n = -2 then b else n
def mid (op : Nat) (a b : Int) : Int := pick a b (form op).x
def last (op : Nat) (a b : Int) : Int := bif (form op).ld then 5 else pick a b (form op).y
def rex (op : Nat) (a b : Int) : List Int := if mid op a b / 8 = 0 ∧ last op a b / 8 = 0 then [] else [64 + 4 * (mid op a b / 8) + last op a b / 8]
def body (op : Nat) (a b : Int) : List Int :=
  bif (form op).ld then (form op).code ++ [128 + 8 * (mid op a b % 8) + 5]
  else bif (form op).md then (form op).code ++ [192 + 8 * (mid op a b % 8) + last op a b % 8]
  else bif (form op).a then [184 + last op a b % 8] else (form op).code
def head (op : Nat) (a b : Int) : List Int := rex op a b ++ body op a b
def le (n : Int) : Nat → List Int
  | 0 => []
  | 1 => [n % 256]
  | _ => [n % 256, n / 256 % 256, n / 65536 % 256, n / 16777216 % 256]
def enc (op : Nat) (a b n : Int) : List Int := head op a b ++ le n (form op).nb
/-! ### reading -/
def ahead (x : List Int) : Int := if x.getD 0 0 / 16 = 4 then x.getD 0 0 else 0
def off (x : List Int) : Nat := if x.getD 0 0 / 16 = 4 then 1 else 0
def need (op : Nat) (x : List Int) : Nat := off x + (form op).code.length + (form op).nb + (bif (form op).md then 1 else 0)
def rmid (op : Nat) (x : List Int) : Int := ahead x / 4 % 2 * 8 + x.getD (off x + (form op).code.length) 0 / 8 % 8
def rlast (op : Nat) (x : List Int) : Int := ahead x % 2 * 8 + x.getD (off x + (form op).code.length) 0 % 8
def rdA (op : Nat) (x : List Int) : Int :=
  bif (form op).md then (if off x + (form op).code.length < x.length then (if (form op).y = -1 then rlast op x else if (form op).x = -1 then rmid op x else 0) else 0)
  else bif (form op).a then (if off x < x.length then x.getD (off x) 0 % 8 + ahead x % 2 * 8 else 0) else 0
def rdB (op : Nat) (x : List Int) : Int :=
  bif (form op).md then (if off x + (form op).code.length < x.length then (if (form op).y = -2 then rlast op x else if (form op).x = -2 then rmid op x else 0) else 0) else 0
def s32 (v : Int) : Int := if v < 2147483648 then v else v - 4294967296
def val (x : List Int) (k : Nat) : Nat → Int
  | 0 => 0
  | 1 => x.getD k 0
  | _ => s32 (x.getD k 0 + 256 * x.getD (k + 1) 0 + 65536 * x.getD (k + 2) 0 + 16777216 * x.getD (k + 3) 0)
def rdN (op : Nat) (x : List Int) : Int := if need op x ≤ x.length then val x (need op x - (form op).nb) (form op).nb else 0
def common : List Int → List Int → Nat
  | a :: l, b :: m => if a = b then common l m + 1 else 0
  | _, _ => 0
def same (op : Nat) (x : List Int) : Nat := bif valid op (rdA op x) (rdB op x) (rdN op x) then common (enc op (rdA op x) (rdB op x) (rdN op x)) x else 0
def hit (op : Nat) (x : List Int) : Bool := same op x == need op x
def isBytes (x : List Int) : Prop := ∀ v ∈ x, 0 ≤ v ∧ v ≤ 255
theorem common_le (l m : List Int) : common l m ≤ l.length := by
  induction l generalizing m with
  | nil => simp [common]
  | cons a l ih => cases m with
    | nil => simp [common]
    | cons b m => simp only [common]; split <;> simp; exact ih m
theorem common_all {l m : List Int} (h : common l m = l.length) : ∃ t, m = l ++ t := by
  induction l generalizing m with
  | nil => exact ⟨m, rfl⟩
  | cons a l ih => cases m with
    | nil => simp [common] at h
    | cons b m =>
      simp only [common] at h
      split at h
      · rename_i e; subst e
        simp at h; obtain ⟨t, rfl⟩ := ih h; exact ⟨t, rfl⟩
      · simp at h
theorem common_app (l t : List Int) : common l (l ++ t) = l.length := by
  induction l with
  | nil => simp [common]
  | cons a l ih => simp [common, ih]
theorem reg_iff (n : Int) : reg n = true ↔ 0 ≤ n ∧ n ≤ 15 ∧ n ≠ 4 ∧ n ≠ 5 := by simp [reg]
theorem op_cases (op : Nat) (h1 : 1 ≤ op) (h2 : op ≤ 26) : op = 1 ∨ op = 2 ∨ op = 3 ∨ op = 4 ∨ op = 5 ∨ op = 6 ∨ op = 7 ∨ op = 8 ∨ op = 9 ∨ op = 10 ∨ op = 11 ∨ op = 12 ∨ op = 13 ∨ op = 14 ∨ op = 15 ∨ op = 16 ∨ op = 17 ∨ op = 18 ∨ op = 19 ∨ op = 20 ∨ op = 21 ∨ op = 22 ∨ op = 23 ∨ op = 24 ∨ op = 25 ∨ op = 26 := by omega
theorem back (op : Nat) (h1 : 1 ≤ op) (h2 : op ≤ 26) (a b : Int) (ha : okA (form op).a a = true) (hb : okA (form op).b b = true) (t : List Int) :
    off (head op a b ++ t) + (form op).code.length + (bif (form op).md then 1 else 0) = (head op a b).length ∧ rdA op (head op a b ++ t) = a ∧ rdB op (head op a b ++ t) = b := by
  have ra : a = 0 ∨ (0 ≤ a ∧ a ≤ 15) := by
    revert ha; cases (form op).a <;> simp [okA, reg_iff] <;> omega
  have rb : b = 0 ∨ (0 ≤ b ∧ b ≤ 15) := by
    revert hb; cases (form op).b <;> simp [okA, reg_iff] <;> omega
  have hr : a / 8 = 0 ∨ a / 8 = 1 := by omega
  have hq : b / 8 = 0 ∨ b / 8 = 1 := by omega
  have hk : ¬ ((184 + a % 8) / 16 = 4) := by omega
  rcases op_cases op h1 h2 with h | h | h | h | h | h | h | h | h | h | h | h | h | h | h | h | h | h | h | h | h | h | h | h | h | h <;> subst h <;>
    simp only [okA, form, two, one, alone, cond_true, cond_false, reg_iff, decide_eq_true_eq] at ha hb <;>
    rcases hr with hr | hr <;> rcases hq with hq | hq <;>
    simp [head, rex, mid, last, body, pick, form, two, one, alone, hr, hq] <;>
    simp [off, ahead, rdA, rdB, rmid, rlast, form, two, one, alone, hk] <;> omega
def opOf (x : List Int) : Nat :=
  let c := x.getD (off x) 0
  let m := x.getD (off x + 1) 0
  if c / 8 = 23 then 1
  else if c = 137 then (if m / 64 = 3 then 2 else 4)
  else if c = 139 then 3 else if c = 1 then 5 else if c = 9 then 6 else if c = 33 then 7 else if c = 41 then 8 else if c = 49 then 9 else if c = 57 then 10
  else if c = 15 then (if m = 175 then 11 else if m = 132 then 19 else if m = 133 then 20 else if m = 140 then 21 else if m = 141 then 22 else if m = 142 then 23 else 24)
  else if c = 247 then (if m / 8 % 8 = 3 then 12 else 14)
  else if c = 153 then 13
  else if c = 211 then (if m / 8 % 8 = 4 then 15 else if m / 8 % 8 = 7 then 16 else 17)
  else if c = 233 then 18 else if c = 195 then 25 else 26
theorem opOf_head (op : Nat) (h1 : 1 ≤ op) (h2 : op ≤ 26) (a b : Int) (ha : okA (form op).a a = true) (hb : okA (form op).b b = true) (t : List Int) : opOf (head op a b ++ t) = op := by
  have ra : a = 0 ∨ (0 ≤ a ∧ a ≤ 15) := by
    revert ha; cases (form op).a <;> simp [okA, reg_iff] <;> omega
  have rb : b = 0 ∨ (0 ≤ b ∧ b ≤ 15) := by
    revert hb; cases (form op).b <;> simp [okA, reg_iff] <;> omega
  have hr : a / 8 = 0 ∨ a / 8 = 1 := by omega
  have hq : b / 8 = 0 ∨ b / 8 = 1 := by omega
  have hk : ¬ ((184 + a % 8) / 16 = 4) := by omega
  have hj : (184 + a % 8) / 8 = 23 := by omega
  have m1 : (192 + 8 * (b % 8) + a % 8) / 64 = 3 := by omega
  have m2 : (128 + 8 * (a % 8) + 5) / 64 = 2 := by omega
  have m3 : (216 + a % 8) / 8 % 8 = 3 := by omega
  have m7 : (248 + a % 8) / 8 % 8 = 7 := by omega
  have m4 : (224 + a % 8) / 8 % 8 = 4 := by omega
  have m5 : (232 + a % 8) / 8 % 8 = 5 := by omega
  rcases op_cases op h1 h2 with h | h | h | h | h | h | h | h | h | h | h | h | h | h | h | h | h | h | h | h | h | h | h | h | h | h <;> subst h <;>
    simp only [okA, form, two, one, alone, cond_true, cond_false, reg_iff, decide_eq_true_eq] at ha hb <;>
    rcases hr with hr | hr <;> rcases hq with hq | hq <;>
    simp [head, rex, mid, last, body, pick, form, two, one, alone, hr, hq] <;>
    simp [opOf, off, hk, hj, m1, m2, m3, m4, m5, m7]
theorem unique {op op' : Nat} (h1 : 1 ≤ op) (h2 : op ≤ 26) (h1' : 1 ≤ op') (h2' : op' ≤ 26) {a b a' b' : Int} (ha : okA (form op).a a = true) (hb : okA (form op).b b = true) (ha' : okA (form op').a a' = true) (hb' : okA (form op').b b' = true)
    {t t' : List Int} (h : head op a b ++ t = head op' a' b' ++ t') : op = op' ∧ a = a' ∧ b = b' := by
  have e := opOf_head op h1 h2 a b ha hb t
  rw [h, opOf_head op' h1' h2' a' b' ha' hb' t'] at e
  subst e
  obtain ⟨_, e1, e2⟩ := back op' h1 h2 a b ha hb t
  obtain ⟨_, e3, e4⟩ := back op' h1' h2' a' b' ha' hb' t'
  rw [h] at e1 e2
  exact ⟨rfl, e1.symm.trans e3, e2.symm.trans e4⟩
theorem nb_cases (op : Nat) : (form op).nb = 0 ∨ (form op).nb = 1 ∨ (form op).nb = 4 := by
  unfold form; split <;> simp [two, one, alone]
theorem le_length (n : Int) (op : Nat) : (le n (form op).nb).length = (form op).nb := by
  rcases nb_cases op with h | h | h <;> simp [h, le]
theorem okN_0 (n : Int) : okN 0 n = true ↔ n = 0 := by simp [okN]
theorem okN_1 (n : Int) : okN 1 n = true ↔ 0 ≤ n ∧ n ≤ 255 := by simp [okN]
theorem okN_4 (n : Int) : okN 4 n = true ↔ -2147483648 ≤ n ∧ n ≤ 2147483647 := by simp [okN]
theorem getD_app (p l : List Int) (k : Nat) : (p ++ l).getD (p.length + k) 0 = l.getD k 0 := by
  simp [List.getD, List.getElem?_append_right]
theorem val_le (op : Nat) (n : Int) (h : okN (form op).nb n = true) (p t : List Int) : val (p ++ (le n (form op).nb ++ t)) p.length (form op).nb = n := by
  rcases nb_cases op with e | e | e <;> rw [e] at h ⊢
  · rw [okN_0] at h; subst h; rfl
  · rw [okN_1] at h
    have := getD_app p (le n 1 ++ t) 0
    simp only [val]; rw [Nat.add_zero] at this; rw [this]
    simp [le]; omega
  · rw [okN_4] at h
    have g0 := getD_app p (le n 4 ++ t) 0
    have g1 := getD_app p (le n 4 ++ t) 1
    have g2 := getD_app p (le n 4 ++ t) 2
    have g3 := getD_app p (le n 4 ++ t) 3
    rw [Nat.add_zero] at g0
    simp only [val]; rw [g0, g1, g2, g3]
    simp only [le, List.cons_append, List.getD_cons_zero, List.getD_cons_succ, s32]
    split <;> omega
theorem le_val {x : List Int} (hx : isBytes x) (op k : Nat) (h : k + (form op).nb ≤ x.length) : le (val x k (form op).nb) (form op).nb = (x.drop k).take (form op).nb ∧ okN (form op).nb (val x k (form op).nb) = true := by
  have hg : ∀ j, j < x.length → ∃ v, x[j]? = some v ∧ 0 ≤ v ∧ v ≤ 255 := fun j hj => ⟨x[j], by simp [hj], hx _ (List.getElem_mem hj)⟩
  rcases nb_cases op with e | e | e <;> rw [e] at h ⊢
  · simp [le, val, okN]
  · obtain ⟨v, h0, h1, h2⟩ := hg k (by omega)
    have hd : x.drop k = v :: x.drop (k + 1) := by
      rw [List.drop_eq_getElem_cons (by omega)]; congr 1; rw [List.getElem?_eq_getElem (by omega)] at h0; exact Option.some.inj h0
    simp only [val, List.getD, h0, Option.getD_some]
    rw [hd, okN_1]
    refine ⟨?_, h1, h2⟩
    simp [le]; omega
  · have hd : ∀ j v, x[j]? = some v → j < x.length → x.drop j = v :: x.drop (j + 1) := by
      intro j v h0 hj
      rw [List.drop_eq_getElem_cons hj]; congr 1; rw [List.getElem?_eq_getElem hj] at h0; exact Option.some.inj h0
    obtain ⟨v0, a0, b0, c0⟩ := hg k (by omega)
    obtain ⟨v1, a1, b1, c1⟩ := hg (k + 1) (by omega)
    obtain ⟨v2, a2, b2, c2⟩ := hg (k + 2) (by omega)
    obtain ⟨v3, a3, b3, c3⟩ := hg (k + 3) (by omega)
    simp only [val, List.getD, a0, a1, a2, a3, Option.getD_some]
    rw [hd _ _ a0 (by omega), hd _ _ a1 (by omega), hd _ _ a2 (by omega), hd _ _ a3 (by omega), okN_4]
    simp only [List.take_succ_cons, List.take_zero]
    simp only [le, s32, List.cons.injEq, and_true]
    split <;> refine ⟨⟨?_, ?_, ?_, ?_⟩, ?_, ?_⟩ <;> omega
theorem valid_iff (op : Nat) (a b n : Int) : valid op a b n = true ↔ okA (form op).a a = true ∧ okA (form op).b b = true ∧ okN (form op).nb n = true := by simp [valid]
theorem enc_length (op : Nat) (a b n : Int) : (enc op a b n).length = (head op a b).length + (form op).nb := by simp [enc, le_length]
def At (op : Nat) (a b n : Int) (x : List Int) : Prop := valid op a b n = true ∧ ∃ t, x = enc op a b n ++ t
theorem read_at {op : Nat} (h1 : 1 ≤ op) (h2 : op ≤ 26) {a b n : Int} {x : List Int} (h : At op a b n x) : rdA op x = a ∧ rdB op x = b ∧ rdN op x = n ∧ need op x = (enc op a b n).length ∧ need op x ≤ x.length := by
  obtain ⟨hv, t, rfl⟩ := h
  obtain ⟨ha, hb, hn⟩ := (valid_iff op a b n).1 hv
  have hx : enc op a b n ++ t = head op a b ++ (le n (form op).nb ++ t) := by simp [enc]
  obtain ⟨e1, e2, e3⟩ := back op h1 h2 a b ha hb (le n (form op).nb ++ t)
  rw [← hx] at e1 e2 e3
  have hneed : need op (enc op a b n ++ t) = (enc op a b n).length := by
    rw [enc_length, ← e1]; unfold need; omega
  refine ⟨e2, e3, ?_, hneed, by rw [hneed]; simp⟩
  unfold rdN
  rw [hneed, if_pos (by simp), enc_length, Nat.add_sub_cancel, hx]
  exact val_le op n hn _ _
theorem hit_at {op : Nat} (h1 : 1 ≤ op) (h2 : op ≤ 26) {a b n : Int} {x : List Int} (h : At op a b n x) : hit op x = true := by
  obtain ⟨e1, e2, e3, e4, _⟩ := read_at h1 h2 h
  obtain ⟨hv, t, rfl⟩ := h
  unfold hit same
  rw [e1, e2, e3, hv, e4]
  simp [common_app]
theorem code_ne (op : Nat) : ∃ c l, (form op).code = c :: l ∧ ¬ (c / 16 = 4) := by
  unfold form; split <;> exact ⟨_, _, rfl, by decide⟩
theorem body_ne (op : Nat) (a b : Int) (ha : 0 ≤ last op a b) : ∃ c l, body op a b = c :: l ∧ ¬ (c / 16 = 4) ∧ l.length + 1 = (form op).code.length + (bif (form op).md then 1 else 0) := by
  revert ha
  unfold body last form
  split <;> intro ha <;> refine ⟨_, _, rfl, ?_, ?_⟩ <;> simp [two, one, alone, pick] at ha ⊢ <;> omega
theorem hit_iff {op : Nat} {x : List Int} (h : hit op x = true) : At op (rdA op x) (rdB op x) (rdN op x) x := by
  unfold hit same at h
  cases hv : valid op (rdA op x) (rdB op x) (rdN op x) with
  | false =>
    rw [hv] at h
    have : need op x ≠ 0 := by
      unfold need
      obtain ⟨c, l, e, _⟩ := code_ne op
      rw [e]; simp
    simp at h; omega
  | true =>
    rw [hv] at h
    simp only [cond_true, beq_iff_eq] at h
    refine ⟨hv, ?_⟩
    generalize rdA op x = a at *
    generalize rdB op x = b at *
    generalize rdN op x = n at *
    obtain ⟨ha, hb, hn⟩ := (valid_iff op a b n).1 hv
    have ra : 0 ≤ a ∧ a ≤ 15 := by
      revert ha; cases (form op).a <;> simp [okA, reg_iff] <;> omega
    have rb : 0 ≤ b ∧ b ≤ 15 := by
      revert hb; cases (form op).b <;> simp [okA, reg_iff] <;> omega
    have hl : 0 ≤ last op a b ∧ last op a b ≤ 15 ∧ 0 ≤ mid op a b ∧ mid op a b ≤ 15 := by
      unfold last mid pick form
      split <;> simp [two, one, alone] <;> omega
    obtain ⟨c, l, e, hc, hlen⟩ := body_ne op a b hl.1
    apply common_all
    have hle := common_le (enc op a b n) x
    rw [h] at hle
    have hlen2 : (enc op a b n).length = (rex op a b).length + (l.length + 1) + (form op).nb := by rw [enc_length]; unfold head; rw [e]; simp
    have hneed : need op x = off x + (l.length + 1) + (form op).nb := by unfold need; omega
    rw [h]
    by_cases hr : mid op a b / 8 = 0 ∧ last op a b / 8 = 0
    · have e1 : rex op a b = [] := by unfold rex; rw [if_pos hr]
      rw [e1] at hlen2
      simp at hlen2
      omega
    · have e1 : rex op a b = [64 + 4 * (mid op a b / 8) + last op a b / 8] := by unfold rex; rw [if_neg hr]
      have e2 : enc op a b n = (64 + 4 * (mid op a b / 8) + last op a b / 8) :: (body op a b ++ le n (form op).nb) := by unfold enc head; rw [e1]; simp
      rw [e1] at hlen2
      simp at hlen2
      have : off x = 1 := by
        cases x with
        | nil => rw [e2] at h; simp [common] at h; omega
        | cons v x =>
          rw [e2] at h
          simp only [common] at h
          split at h
          · rename_i e3
            unfold off
            rw [List.getD_cons_zero, if_pos (by omega)]
          · omega
      omega
/-! ### beginnings -/
def begins : List Int → List Int → Bool
  | a :: l, b :: m => decide (a = b) && begins l m
  | _, _ => true
theorem begins_pre {x y : List Int} (h : begins x y = true) (hl : y.length ≤ x.length) : ∃ t, x = y ++ t := by
  induction y generalizing x with
  | nil => exact ⟨x, rfl⟩
  | cons b m ih => cases x with
    | nil => simp at hl
    | cons a l =>
      simp only [begins, Bool.and_eq_true, decide_eq_true_eq] at h
      obtain ⟨rfl, h⟩ := h
      obtain ⟨t, rfl⟩ := ih h (by simpa using hl)
      exact ⟨t, rfl⟩
theorem begins_app (y t : List Int) : begins (y ++ t) y = true := by
  induction y with
  | nil => cases t <;> rfl
  | cons b m ih => simp [begins, ih]
theorem at_of_begins {op : Nat} {x : List Int} (hx : isBytes x) {r s : Int} (hr : okA (form op).a r = true) (hs : okA (form op).b s = true) (hb : begins x (head op r s) = true) (hl : (head op r s).length + (form op).nb ≤ x.length) :
    At op r s (val x (head op r s).length (form op).nb) x := by
  obtain ⟨t, rfl⟩ := begins_pre hb (by omega)
  have ht : (form op).nb ≤ t.length := by simp at hl; exact hl
  obtain ⟨e1, e2⟩ := le_val hx op (head op r s).length hl
  refine ⟨(valid_iff _ _ _ _).2 ⟨hr, hs, e2⟩, t.drop (form op).nb, ?_⟩
  unfold enc
  rw [e1, List.append_assoc]
  congr 1
  simp
theorem begins_of_at {op : Nat} {x : List Int} {a b n : Int} (h : At op a b n x) : okA (form op).a a = true ∧ okA (form op).b b = true ∧ begins x (head op a b) = true ∧ (head op a b).length + (form op).nb ≤ x.length := by
  obtain ⟨hv, t, rfl⟩ := h
  obtain ⟨ha, hb, _⟩ := (valid_iff op a b n).1 hv
  refine ⟨ha, hb, ?_, by simp [enc_length]⟩
  unfold enc
  rw [List.append_assoc]; exact begins_app _ _
/-! ### what is read at a place -/
def regsOf (u : Bool) : List Int := bif u then [0, 1, 2, 3, 6, 7, 8, 9, 10, 11, 12, 13, 14, 15] else [0]
theorem mem_regsOf (u : Bool) (n : Int) : n ∈ regsOf u ↔ okA u n = true := by
  cases u
  · simp [regsOf, okA]
  · simp [regsOf, okA, reg_iff]; omega
def start (x : List Int) : Prop := ∃ op r s, 1 ≤ op ∧ op ≤ 26 ∧ okA (form op).a r = true ∧ okA (form op).b s = true ∧ begins x (head op r s) = true
inductive Dec where
  | ok (op : Nat) (a b n : Int) (len : Nat)
  | err (e : Int)
inductive Reads (x : List Int) : Dec → Prop where
  | ok {op : Nat} {a b n : Int} (h1 : 1 ≤ op) (h2 : op ≤ 26) (h : At op a b n x) : Reads x (.ok op a b n (enc op a b n).length)
  | cut (h : ∀ op, 1 ≤ op → op ≤ 26 → hit op x = false) (hs : start x) : Reads x (.err 10)
  | bad (h : ∀ op, 1 ≤ op → op ≤ 26 → hit op x = false) (hs : ¬ start x) : Reads x (.err 12)
theorem at_unique {op op' : Nat} (h1 : 1 ≤ op) (h2 : op ≤ 26) (h1' : 1 ≤ op') (h2' : op' ≤ 26) {a b n a' b' n' : Int} {x : List Int} (h : At op a b n x) (h' : At op' a' b' n' x) : op = op' ∧ a = a' ∧ b = b' ∧ n = n' := by
  obtain ⟨e1, e2, e3, _⟩ := read_at h1 h2 h
  obtain ⟨hv, t, ht⟩ := h
  obtain ⟨f1, f2, f3, _⟩ := read_at h1' h2' h'
  obtain ⟨hv', t', ht'⟩ := h'
  obtain ⟨ha, hb, hn⟩ := (valid_iff _ _ _ _).1 hv
  obtain ⟨ha', hb', hn'⟩ := (valid_iff _ _ _ _).1 hv'
  have e : head op a b ++ (le n (form op).nb ++ t) = head op' a' b' ++ (le n' (form op').nb ++ t') := by
    have := ht.symm.trans ht'
    simpa [enc] using this
  obtain ⟨rfl, rfl, rfl⟩ := unique h1 h2 h1' h2' ha hb ha' hb' e
  exact ⟨rfl, rfl, rfl, e3.symm.trans f3⟩
theorem Reads.unique {x : List Int} {d d' : Dec} (h : Reads x d) (h' : Reads x d') : d = d' := by
  cases h with
  | ok h1 h2 h =>
    cases h' with
    | ok h1' h2' h' => obtain ⟨rfl, rfl, rfl, rfl⟩ := at_unique h1 h2 h1' h2' h h'; rfl
    | cut q _ => exact absurd ((hit_at h1 h2 h).symm.trans (q _ h1 h2)) (by simp)
    | bad q _ => exact absurd ((hit_at h1 h2 h).symm.trans (q _ h1 h2)) (by simp)
  | cut q hs =>
    cases h' with
    | ok h1' h2' h' => exact absurd ((hit_at h1' h2' h').symm.trans (q _ h1' h2')) (by simp)
    | cut _ _ => rfl
    | bad _ hn => exact absurd hs hn
  | bad q hn =>
    cases h' with
    | ok h1' h2' h' => exact absurd ((hit_at h1' h2' h').symm.trans (q _ h1' h2')) (by simp)
    | cut _ hs => exact absurd hs hn
    | bad _ _ => rfl
theorem head_le (op : Nat) (a b : Int) : (head op a b).length + (form op).nb ≤ 7 := by
  unfold head rex body form
  split <;> split <;> simp [two, one, alone]
theorem head_pos (op : Nat) (a b : Int) : 1 ≤ (head op a b).length := by
  unfold head rex body form
  split <;> split <;> simp [two, one, alone]
theorem short_of_start {x : List Int} (hx : isBytes x) (h : ∀ op, 1 ≤ op → op ≤ 26 → hit op x = false) {op : Nat} (h1 : 1 ≤ op) (h2 : op ≤ 26) {r s : Int} (hr : okA (form op).a r = true) (hs : okA (form op).b s = true) (hb : begins x (head op r s) = true) :
    x.length < (head op r s).length + (form op).nb := by
  apply Nat.lt_of_not_le
  intro hl
  have := hit_at h1 h2 (at_of_begins hx hr hs hb hl)
  rw [h op h1 h2] at this
  cases this
theorem begins_iff (x y : List Int) : begins x y = true ↔ (x <+: y ∨ y <+: x) := by
  induction y generalizing x with
  | nil => cases x <;> simp [begins]
  | cons b m ih => cases x with
    | nil => simp [begins]
    | cons a l =>
      simp only [begins, Bool.and_eq_true, decide_eq_true_eq, ih, List.cons_prefix_cons]
      constructor
      · rintro ⟨rfl, h | h⟩
        · exact .inl ⟨rfl, h⟩
        · exact .inr ⟨rfl, h⟩
      · rintro (⟨rfl, h⟩ | ⟨rfl, h⟩)
        · exact ⟨rfl, .inl h⟩
        · exact ⟨rfl, .inr h⟩
/-! ### all of them -/
structure Ins where
  op : Nat
  a : Int
  b : Int
  n : Int
inductive Upto (x : List Int) : Nat → List Ins → List Int → Prop where
  | none : Upto x 0 [] []
  | more {k : Nat} {l : List Ins} {p : List Int} {op : Nat} {a b n : Int} {len : Nat} (h : Upto x k l p) (hk : k < x.length) (hd : Reads (x.drop k) (.ok op a b n len)) : Upto x (k + len) (l ++ [⟨op, a, b, n⟩]) (p ++ [(k : Int)])
inductive AllOf (x : List Int) : List Ins → List Int → Int → Int → Prop where
  | ok {k : Nat} {l : List Ins} {p : List Int} (h : Upto x k l p) (hk : x.length ≤ k) : AllOf x l p 0 0
  | err {k : Nat} {l : List Ins} {p : List Int} {e : Int} (h : Upto x k l p) (hk : k < x.length) (hd : Reads (x.drop k) (.err e)) : AllOf x [] [] e (k : Int)
theorem len_pos {x : List Int} {op : Nat} {a b n : Int} {len : Nat} (h : Reads x (.ok op a b n len)) : 1 ≤ len ∧ len ≤ x.length ∧ len ≤ 7 := by
  cases h with
  | ok h1 h2 h =>
    obtain ⟨_, t, ht⟩ := h
    have := congrArg List.length ht
    have h3 := head_pos op a b
    have h4 := head_le op a b
    rw [List.length_append] at this
    rw [enc_length] at this ⊢
    omega
theorem Upto.le {x : List Int} {k : Nat} {l : List Ins} {p : List Int} (h : Upto x k l p) : k ≤ x.length ∧ l.length ≤ k ∧ p.length = l.length := by
  induction h with
  | none => simp
  | more h hk hd ih =>
    have := len_pos hd
    simp at this ⊢
    omega
theorem Upto.unique {x : List Int} {k : Nat} {l : List Ins} {p : List Int} (h : Upto x k l p) : ∀ {k' : Nat} {l' : List Ins} {p' : List Int}, Upto x k' l' p' → l.length = l'.length → k = k' ∧ l = l' ∧ p = p' := by
  induction h with
  | none =>
    intro k' l' p' h' hl
    cases h' with
    | none => exact ⟨rfl, rfl, rfl⟩
    | more _ _ _ => simp at hl
  | more h hk hd ih =>
    intro k' l' p' h' hl
    cases h' with
    | none => simp at hl
    | more h' hk' hd' =>
      simp at hl
      obtain ⟨rfl, rfl, rfl⟩ := ih h' hl
      cases Reads.unique hd hd'
      exact ⟨rfl, rfl, rfl⟩
theorem Upto.earlier {x : List Int} {k : Nat} {l : List Ins} {p : List Int} (h : Upto x k l p) : ∀ i, i < l.length → ∃ k0 l0 p0 op a b n len, Upto x k0 l0 p0 ∧ l0.length = i ∧ k0 < x.length ∧ Reads (x.drop k0) (.ok op a b n len) := by
  induction h with
  | none => intro i hi; simp at hi
  | more h hk hd ih =>
    intro i hi
    simp at hi
    rcases Nat.lt_or_ge i (List.length _) with hlt | hge
    · exact ih i hlt
    · have : i = List.length _ := Nat.le_antisymm (Nat.le_of_lt_succ hi) hge
      subst this
      exact ⟨_, _, _, _, _, _, _, _, h, rfl, hk, hd⟩
theorem ends_same {x : List Int} {k k' : Nat} {l l' : List Ins} {p p' : List Int} (h : Upto x k l p) (h' : Upto x k' l' p') (he : ∀ op a b n len, k < x.length → ¬ Reads (x.drop k) (.ok op a b n len)) (he' : ∀ op a b n len, k' < x.length → ¬ Reads (x.drop k') (.ok op a b n len)) : k = k' ∧ l = l' ∧ p = p' := by
  rcases Nat.lt_trichotomy l.length l'.length with hlt | heq | hlt
  · obtain ⟨k0, l0, p0, op, a, b, n, len, q1, q2, q3, q4⟩ := h'.earlier _ hlt
    obtain ⟨rfl, _, _⟩ := q1.unique h q2
    exact absurd q4 (he _ _ _ _ _ q3)
  · exact h.unique h' heq
  · obtain ⟨k0, l0, p0, op, a, b, n, len, q1, q2, q3, q4⟩ := h.earlier _ hlt
    obtain ⟨rfl, _, _⟩ := q1.unique h' q2
    exact absurd q4 (he' _ _ _ _ _ q3)
theorem AllOf.unique {x : List Int} {l l' : List Ins} {p p' : List Int} {e e' k k' : Int} (h : AllOf x l p e k) (h' : AllOf x l' p' e' k') : l = l' ∧ p = p' ∧ e = e' ∧ k = k' := by
  cases h with
  | ok h hk =>
    cases h' with
    | ok h' hk' =>
      obtain ⟨_, rfl, rfl⟩ := ends_same h h' (fun _ _ _ _ _ q => by omega) (fun _ _ _ _ _ q => by omega)
      exact ⟨rfl, rfl, rfl, rfl⟩
    | err h' hk' hd' =>
      obtain ⟨rfl, _, _⟩ := ends_same h h' (fun _ _ _ _ _ q => by omega) (fun _ _ _ _ _ _ q => by cases Reads.unique q hd')
      omega
  | err h hk hd =>
    cases h' with
    | ok h' hk' =>
      obtain ⟨rfl, _, _⟩ := ends_same h h' (fun _ _ _ _ _ _ q => by cases Reads.unique q hd) (fun _ _ _ _ _ q => by omega)
      omega
    | err h' hk' hd' =>
      obtain ⟨rfl, _, _⟩ := ends_same h h' (fun _ _ _ _ _ _ q => by cases Reads.unique q hd) (fun _ _ _ _ _ _ q => by cases Reads.unique q hd')
      cases Reads.unique hd hd'
      exact ⟨rfl, rfl, rfl, rfl⟩
/-! ### what is written is read -/
def cat (l : List Ins) : List Int := l.flatMap fun i => enc i.op i.a i.b i.n
def Fit (i : Ins) : Prop := 1 ≤ i.op ∧ i.op ≤ 26 ∧ valid i.op i.a i.b i.n = true
end RD
