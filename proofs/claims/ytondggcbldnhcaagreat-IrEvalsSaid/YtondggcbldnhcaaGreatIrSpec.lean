/-
  WHAT ir.Check AND ir.Eval RECKON, in plain Lean, and the law of IrMore about it.
-/
namespace Go.Proofs.YtondggcbldnhcaaGreat.irx
set_option linter.unusedVariables false

/-- code on registers -/
structure Fn where
  (P R : Int)
  (len : Nat)
  (op ds a b n to : Nat → Int)
/-- the three functions of arithmetic that it asks -/
structure Ar where
  (two : Int → Int → Int → Int × Int)
  (one : Int → Int → Int × Int)
  (test : Int → Int → Int → Bool × Int)

/-- does an operation read A, B? -/
def rdA (op : Int) : Bool := decide (op = 2) || decide (op = 4) || decide (op = 7) || decide (op = 3) || decide (op = 6)
def rdB (op n : Int) : Bool := decide (op = 3) || (decide (op = 6) && decide (159 ≤ n))
def wr (op : Int) : Bool := decide (1 ≤ op) && decide (op ≤ 4)
def inR (R x : Int) : Bool := decide (0 ≤ x) && decide (x < R)
/-- may the instruction be? -/
def why (A : Ar) (op n : Int) : Int :=
  if op = 3 then (A.two n 1 1).2 else if op = 4 then (A.one n 1).2 else if op = 6 then (A.test n 1 1).2 else 0
def fine (R : Int) (len : Nat) (op ds a b n to : Int) : Bool :=
  (!rdA op || inR R a) && (!rdB op n || inR R b) && (!wr op || inR R ds) && (!(decide (op = 5) || decide (op = 6)) || inR len to)
def right (A : Ar) (R : Int) (len : Nat) (op ds a b n to : Int) : Int :=
  if op < 1 ∨ 9 < op then 15 else if fine R len op ds a b n to = false ∨ why A op n ≠ 0 then 1 else 0
def rightAt (A : Ar) (F : Fn) (k : Nat) : Int := right A F.R F.len (F.op k) (F.ds k) (F.a k) (F.b k) (F.n k) (F.to k)
/-- the first refusal among the first k; 0: none -/
def firstBad (f : Nat → Int) : Nat → Int
  | 0 => 0
  | k + 1 => if firstBad f k ≠ 0 then firstBad f k else f k
theorem firstBad_zero {f : Nat → Int} : ∀ {k : Nat}, firstBad f k = 0 → ∀ i, i < k → f i = 0
  | 0, _, i, hi => by omega
  | k + 1, h, i, hi => by
    simp only [firstBad] at h
    split at h
    · contradiction
    · rename_i h0
      have h0' : firstBad f k = 0 := by omega
      by_cases hik : i < k
      · exact firstBad_zero h0' i hik
      · have : i = k := by omega
        subst this; exact h
theorem firstBad_stop {f : Nat → Int} {k : Nat} (h : firstBad f k ≠ 0) : ∀ n, k ≤ n → firstBad f n = firstBad f k := by
  intro n hn
  induction n with
  | zero => have : k = 0 := by omega
            subst this; rfl
  | succ n ih =>
    by_cases e : k = n + 1
    · subst e; rfl
    · have := ih (by omega)
      simp only [firstBad]
      rw [this, if_pos h]
def head (F : Fn) : Bool := decide (F.R < 0) || decide (34 < F.R) || decide (F.P < 0) || decide (F.R < F.P) || decide (4096 < (F.len : Int))
def chk (A : Ar) (F : Fn) : Int :=
  if head F = true then 1 else if firstBad (rightAt A F) F.len ≠ 0 then firstBad (rightAt A F) F.len else if F.len = 0 then 17
  else if F.op (F.len - 1) = 5 ∨ F.op (F.len - 1) = 7 ∨ F.op (F.len - 1) = 8 then 0 else 17

/-! ### a run -/
structure St where
  (at_ done btw met : Nat)
  (regs : List Int)
def rg (s : St) (i : Int) : Int := s.regs.getD i.toNat 0
def setR (s : St) (i v : Int) : List Int := s.regs.set i.toNat v
def lim (F : Fn) (s : St) : Bool := decide (16 * (1024 + (F.len : Int)) ≤ (s.btw : Int)) || decide ((4194304 : Int) ≤ (s.done : Int))
def go (s : St) (at_ : Nat) (regs : List Int) : (Int × Int × Int) ⊕ St := .inr ⟨at_, s.done + 1, s.btw + 1, s.met, regs⟩
/-- one instruction that is no Poll: what it comes to, or the next state -/
def body (A : Ar) (F : Fn) (s : St) : (Int × Int × Int) ⊕ St :=
  if F.op s.at_ = 1 then go s (s.at_ + 1) (setR s (F.ds s.at_) (F.n s.at_))
  else if F.op s.at_ = 2 then go s (s.at_ + 1) (setR s (F.ds s.at_) (rg s (F.a s.at_)))
  else if F.op s.at_ = 3 then
    (if (A.two (F.n s.at_) (rg s (F.a s.at_)) (rg s (F.b s.at_))).2 ≠ 0 then .inl (2, 0, s.met)
    else go s (s.at_ + 1) (setR s (F.ds s.at_) (A.two (F.n s.at_) (rg s (F.a s.at_)) (rg s (F.b s.at_))).1))
  else if F.op s.at_ = 4 then go s (s.at_ + 1) (setR s (F.ds s.at_) (A.one (F.n s.at_) (rg s (F.a s.at_))).1)
  else if F.op s.at_ = 6 then
    go s (if (A.test (F.n s.at_) (rg s (F.a s.at_)) (if rdB 6 (F.n s.at_) = true then rg s (F.b s.at_) else 0)).1 = true then (F.to s.at_).toNat else s.at_ + 1) s.regs
  else if F.op s.at_ = 5 then go s (F.to s.at_).toNat s.regs
  else if F.op s.at_ = 7 then .inl (1, rg s (F.a s.at_), s.met)
  else .inl (1, 0, s.met)
def step (A : Ar) (F : Fn) (polls : Nat) (s : St) : (Int × Int × Int) ⊕ St :=
  if F.op s.at_ = 9 then (if polls ≤ s.met then .inl (3, 0, s.met) else .inr ⟨s.at_ + 1, s.done + 1, 0, s.met + 1, s.regs⟩)
  else if lim F s = true then .inl (4, 0, s.met) else body A F s
def meas (polls : Nat) (s : St) : Nat := (4194304 - s.done) + (polls - s.met)
theorem body_next {A : Ar} {F : Fn} {s s' : St} (h : body A F s = .inr s') : s'.done = s.done + 1 ∧ s'.met = s.met := by
  unfold body go at h
  repeat' split at h
  all_goals first | cases h | skip
  all_goals exact ⟨rfl, rfl⟩
theorem body_end {A : Ar} {F : Fn} {s : St} {r : Int × Int × Int} (h : body A F s = .inl r) : r.1 ≠ 3 ∧ r.2.2 = s.met := by
  unfold body go at h
  repeat' split at h
  all_goals first | cases h | skip
  all_goals exact ⟨by simp, rfl⟩
theorem step_less {A : Ar} {F : Fn} {polls : Nat} {s s' : St} (h : step A F polls s = .inr s') : meas polls s' < meas polls s ∧ s.met ≤ s'.met := by
  unfold step at h
  split at h
  · split at h
    · cases h
    · injection h with h; subst h; simp only [meas]; omega
  · split at h
    · cases h
    · rename_i hl
      obtain ⟨h1, h2⟩ := body_next h
      simp only [lim, Bool.or_eq_true, decide_eq_true_eq, not_or] at hl
      simp only [meas]; omega
def run (A : Ar) (F : Fn) (polls : Nat) : Nat → St → Int × Int × Int
  | 0, _ => (0, 0, 0)
  | n + 1, s => match step A F polls s with
    | .inl r => r
    | .inr s' => run A F polls n s'
def runS (A : Ar) (F : Fn) (polls : Nat) (s : St) : Int × Int × Int := run A F polls (meas polls s + 1) s
theorem run_fuel {A : Ar} {F : Fn} {polls : Nat} : ∀ (n : Nat) (s : St), meas polls s < n → run A F polls n s = runS A F polls s := by
  have key : ∀ (k : Nat) (s : St), meas polls s ≤ k → ∀ n, meas polls s < n → run A F polls n s = run A F polls (meas polls s + 1) s := by
    intro k
    induction k with
    | zero =>
      intro s hs n hn
      obtain ⟨n, rfl⟩ : ∃ m, n = m + 1 := ⟨n - 1, by omega⟩
      simp only [run]
      split
      · rfl
      · rename_i s' h; have := (step_less h).1; omega
    | succ k ih =>
      intro s hs n hn
      obtain ⟨n, rfl⟩ : ∃ m, n = m + 1 := ⟨n - 1, by omega⟩
      simp only [run]
      split
      · rfl
      · rename_i s' h
        have hl := (step_less h).1
        rw [ih s' (by omega) n (by omega), ih s' (by omega) (meas polls s) (by omega)]
  exact fun n s h => key _ s (Nat.le_refl _) n h
theorem runS_inl {A : Ar} {F : Fn} {polls : Nat} {s : St} {r : Int × Int × Int} (h : step A F polls s = .inl r) : runS A F polls s = r := by
  unfold runS; simp only [run, h]
theorem runS_inr {A : Ar} {F : Fn} {polls : Nat} {s s' : St} (h : step A F polls s = .inr s') : runS A F polls s = runS A F polls s' := by
  have := (step_less h).1
  rw [← run_fuel (meas polls s) s' this]
  unfold runS; simp only [run, h]
/-- a run from any state: the Polls that were met are not forgotten -/
theorem run_met {A : Ar} {F : Fn} {polls : Nat} : ∀ (n : Nat) (s : St), meas polls s < n → (s.met : Int) ≤ (run A F polls n s).2.2
  | 0, s, h => by omega
  | n + 1, s, h => by
    simp only [run]
    split
    · rename_i r hr
      unfold step at hr
      split at hr
      · split at hr
        · injection hr with hr; subst hr; simp
        · cases hr
      · split at hr
        · injection hr with hr; subst hr; simp
        · rw [(body_end hr).2]; omega
    · rename_i s' hs
      obtain ⟨h1, h2⟩ := step_less hs
      have := run_met (A := A) (F := F) (polls := polls) n s' (by omega)
      omega
/-- WITH MORE POLLS ONE GETS FURTHER -/
theorem more {A : Ar} {F : Fn} {p q : Nat} (hpq : p ≤ q) : ∀ (n : Nat) (s : St), meas p s < n → s.met ≤ p →
    ((run A F p n s).1 ≠ 3 → runS A F q s = run A F p n s) ∧ ((run A F p n s).1 = 3 → (run A F p n s).2.2 = p ∧ (run A F p n s).2.1 = 0 ∧ (p : Int) ≤ (runS A F q s).2.2)
  | 0, s, h, _ => by omega
  | n + 1, s, h, hm => by
    by_cases h9 : F.op s.at_ = 9
    · by_cases hp : p ≤ s.met
      · have e : step A F p s = .inl (3, 0, s.met) := by simp only [step, h9, if_pos, hp]
        have er : run A F p (n + 1) s = (3, 0, (s.met : Int)) := by simp only [run, e]
        rw [er]
        have hpm : p = s.met := by omega
        refine ⟨fun h => absurd rfl h, fun _ => ⟨by simp only [hpm], rfl, ?_⟩⟩
        have := run_met (A := A) (F := F) (polls := q) (meas q s + 1) s (by omega)
        unfold runS; rw [hpm]; exact this
      · have e : step A F p s = .inr ⟨s.at_ + 1, s.done + 1, 0, s.met + 1, s.regs⟩ := by simp only [step, h9, if_pos, if_neg hp]
        have e' : step A F q s = .inr ⟨s.at_ + 1, s.done + 1, 0, s.met + 1, s.regs⟩ := by simp only [step, h9, if_pos, if_neg (show ¬ q ≤ s.met by omega)]
        have er : run A F p (n + 1) s = run A F p n ⟨s.at_ + 1, s.done + 1, 0, s.met + 1, s.regs⟩ := by simp only [run, e]
        rw [er, runS_inr e']
        exact more hpq n _ (by have := (step_less e).1; omega) (by simp only; omega)
    · by_cases hl : lim F s = true
      · have e : ∀ p, step A F p s = .inl (4, 0, s.met) := fun p => by simp only [step, if_neg h9, if_pos hl]
        have er : run A F p (n + 1) s = (4, 0, (s.met : Int)) := by simp only [run, e p]
        rw [er]
        exact ⟨fun _ => runS_inl (e q), fun h => absurd h (by simp)⟩
      · have e : ∀ p, step A F p s = body A F s := fun p => by simp only [step, if_neg h9, if_neg hl]
        cases hb : body A F s with
        | inl r =>
          have er : run A F p (n + 1) s = r := by simp only [run, e p, hb]
          rw [er]
          exact ⟨fun _ => runS_inl ((e q).trans hb), fun h => absurd h (body_end hb).1⟩
        | inr s' =>
          have er : run A F p (n + 1) s = run A F p n s' := by simp only [run, e p, hb]
          rw [er, runS_inr ((e q).trans hb)]
          obtain ⟨h1, h2⟩ := body_next hb
          exact more hpq n s' (by have := (step_less ((e p).trans hb)).1; omega) (by omega)
/-- what Eval answers: kind, number, Polls -/
def start (F : Fn) (args : List Int) : St := ⟨0, 0, 0, 0, args ++ List.replicate (F.R.toNat - args.length) 0⟩
def eval (A : Ar) (F : Fn) (args : List Int) (polls : Nat) : Int × Int × Int :=
  if chk A F ≠ 0 ∨ (args.length : Int) ≠ F.P then (0, 0, 0) else runS A F polls (start F args)
theorem eval_more (A : Ar) (F : Fn) (args : List Int) {p q : Nat} (hpq : p ≤ q) :
    ((eval A F args p).1 ≠ 3 → eval A F args q = eval A F args p) ∧ ((eval A F args p).1 = 3 → (eval A F args p).2.2 = p ∧ (eval A F args p).2.1 = 0 ∧ (p : Int) ≤ (eval A F args q).2.2) := by
  unfold eval
  by_cases h : chk A F ≠ 0 ∨ (args.length : Int) ≠ F.P
  · rw [if_pos h, if_pos h]; exact ⟨fun _ => rfl, fun h => absurd h (by decide)⟩
  · rw [if_neg h, if_neg h]
    exact more hpq _ (start F args) (by omega) (Nat.zero_le _)
end Go.Proofs.YtondggcbldnhcaaGreat.irx
