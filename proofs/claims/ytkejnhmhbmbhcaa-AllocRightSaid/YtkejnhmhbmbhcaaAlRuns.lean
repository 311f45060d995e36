/-
  Registers for spans, plainly: one step; that a step is the only one; with one register more no more is spilled.
-/
set_option maxHeartbeats 64000000
set_option maxRecDepth 1000000
set_option linter.unusedVariables false
set_option linter.unusedSimpArgs false
namespace AlScan
structure Sps where
  V : Nat → Int
  F : Nat → Int
  T : Nat → Int
def upd {α : Type} (f : Nat → α) (k : Nat) (v : α) : Nat → α := fun i => if i = k then v else f i
theorem upd_self {α : Type} (f : Nat → α) (k : Nat) (v : α) : upd f k v k = v := if_pos rfl
theorem upd_ne {α : Type} (f : Nat → α) {k i : Nat} (v : α) (h : i ≠ k) : upd f k v i = f i := if_neg h
def worse (s : Sps) (a b : Nat) : Prop := s.T b < s.T a ∨ (s.T a = s.T b ∧ s.V b < s.V a)
theorem worse_asymm {s : Sps} {a b : Nat} (h : worse s a b) : ¬ worse s b a := by unfold worse at *; omega
structure St where
  reg : Nat → Int
  spill : Nat → Int
  held : Nat → Option Nat
  cnt : Nat
def exp (s : Sps) (n : Nat) (held : Nat → Option Nat) : Nat → Option Nat := fun r =>
  match held r with
  | some h => if s.T h < s.F n then none else some h
  | none => none
inductive Step (s : Sps) (regs n : Nat) (a : St) : St → Prop where
  | free (f : Nat) (hf : f < regs) (h0 : exp s n a.held f = none) (hm : ∀ r, r < f → exp s n a.held r ≠ none) :
      Step s regs n a ⟨upd a.reg n (f : Int), upd a.spill n (-1), upd (exp s n a.held) f (some n), a.cnt⟩
  | self (h : ∀ r, r < regs → ∃ g, exp s n a.held r = some g ∧ worse s n g) :
      Step s regs n a ⟨upd a.reg n (-1), upd a.spill n (a.cnt : Int), exp s n a.held, a.cnt + 1⟩
  | evict (r g : Nat) (hr : r < regs) (hg : exp s n a.held r = some g) (hw : worse s g n) (hm : ∀ r', r' < regs → ∃ g', exp s n a.held r' = some g' ∧ (r' = r ∨ worse s g g')) :
      Step s regs n a ⟨upd (upd a.reg g (-1)) n (r : Int), upd (upd a.spill n (-1)) g (a.cnt : Int), upd (exp s n a.held) r (some n), a.cnt + 1⟩
theorem Step.unique {s : Sps} {regs n : Nat} {a b c : St} (h : Step s regs n a b) (h' : Step s regs n a c) : b = c := by
  cases h with
  | free f hf h0 hm =>
    cases h' with
    | free f' hf' h0' hm' =>
      have : f = f' := by
        rcases Nat.lt_trichotomy f f' with h | h | h
        · exact absurd h0 (hm' f h)
        · exact h
        · exact absurd h0' (hm f' h)
      subst this; rfl
    | self h =>
      obtain ⟨g, e, _⟩ := h f hf
      rw [h0] at e; cases e
    | evict r g hr hg hw hm' =>
      obtain ⟨g', e, _⟩ := hm' f hf
      rw [h0] at e; cases e
  | self h =>
    cases h' with
    | free f' hf' h0' hm' =>
      obtain ⟨g, e, _⟩ := h f' hf'
      rw [h0'] at e; cases e
    | self h' => rfl
    | evict r g hr hg hw hm' =>
      obtain ⟨g', e, hx⟩ := h r hr
      rw [hg] at e; injection e with e; subst e
      exact absurd hw (worse_asymm hx)
  | evict r g hr hg hw hm =>
    cases h' with
    | free f' hf' h0' hm' =>
      obtain ⟨g', e, _⟩ := hm f' hf'
      rw [h0'] at e; cases e
    | self h' =>
      obtain ⟨g', e, hx⟩ := h' r hr
      rw [hg] at e; injection e with e; subst e
      exact absurd hw (worse_asymm hx)
    | evict r' g' hr' hg' hw' hm' =>
      by_cases e : r = r'
      · subst e
        rw [hg] at hg'; injection hg' with e; subst e; rfl
      · obtain ⟨x, e1, e2⟩ := hm r' hr'
        obtain ⟨y, e3, e4⟩ := hm' r hr
        rw [hg'] at e1; injection e1 with e1; subst e1
        rw [hg] at e3; injection e3 with e3; subst e3
        rcases e2 with e2 | e2
        · exact absurd e2.symm e
        · rcases e4 with e4 | e4
          · exact absurd e4 e
          · exact absurd e4 (worse_asymm e2)
inductive Steps (s : Sps) (regs : Nat) : List Nat → St → St → Prop where
  | nil {a : St} : Steps s regs [] a a
  | cons {n : Nat} {l : List Nat} {a b c : St} (h : Step s regs n a b) (t : Steps s regs l b c) : Steps s regs (n :: l) a c
theorem Steps.unique {s : Sps} {regs : Nat} : ∀ {l : List Nat} {a b c : St}, Steps s regs l a b → Steps s regs l a c → b = c
  | [], _, _, _, h, h' => by cases h; cases h'; rfl
  | n :: l, _, _, _, h, h' => by
    cases h with
    | cons h1 t1 => cases h' with
      | cons h2 t2 =>
        obtain rfl := h1.unique h2
        exact t1.unique t2
def st0 : St := ⟨fun _ => -1, fun _ => -1, fun _ => none, 0⟩
/-! ### what is true of the places -/
structure Row (s : Sps) (l : List Nat) : Prop where
  nd : l.Nodup
  ok : ∀ n ∈ l, s.F n ≤ s.T n
  up : l.Pairwise fun a b => s.F a ≤ s.F b
structure Inv (s : Sps) (regs : Nat) (d : List Nat) (now : Int) (a : St) : Prop where
  held : ∀ r g, a.held r = some g → r < regs ∧ g ∈ d ∧ a.reg g = (r : Int) ∧ a.spill g = -1
  each : ∀ g ∈ d, (a.reg g = -1 ∧ 0 ≤ a.spill g ∧ a.spill g < (a.cnt : Int)) ∨ (∃ r : Nat, r < regs ∧ a.reg g = (r : Int) ∧ a.spill g = -1 ∧ (a.held r = some g ∨ s.T g < now))
  apart : ∀ g ∈ d, ∀ h ∈ d, g ≠ h → 0 ≤ a.reg g → a.reg g = a.reg h → s.T g < s.F h ∨ s.T h < s.F g
  spills : ∀ g ∈ d, ∀ h ∈ d, g ≠ h → 0 ≤ a.spill g → a.spill g ≠ a.spill h
  begun : ∀ g ∈ d, s.F g ≤ now
theorem Inv.start (s : Sps) (regs : Nat) (now : Int) : Inv s regs [] now st0 :=
  ⟨fun _ _ h => (by cases h), fun _ h => (by cases h), fun _ h => (by cases h), fun _ h => (by cases h), fun _ h => (by cases h)⟩
theorem exp_some {s : Sps} {n r g : Nat} {held : Nat → Option Nat} (h : exp s n held r = some g) : held r = some g ∧ s.F n ≤ s.T g := by
  unfold exp at h
  cases hh : held r with
  | none => rw [hh] at h; cases h
  | some x =>
    rw [hh] at h
    simp only at h
    by_cases c : s.T x < s.F n
    · rw [if_pos c] at h; cases h
    · rw [if_neg c] at h; injection h with h; subst h; exact ⟨rfl, by omega⟩
theorem exp_of {s : Sps} {n r g : Nat} {held : Nat → Option Nat} (h : held r = some g) : exp s n held r = some g ∨ s.T g < s.F n := by
  unfold exp
  rw [h]
  simp only
  by_cases c : s.T g < s.F n
  · exact .inr c
  · rw [if_neg c]; exact .inl rfl
theorem Step.inv {s : Sps} {regs n : Nat} {d : List Nat} {now : Int} {a b : St} (hi : Inv s regs d now a) (hn : n ∉ d) (hnow : now ≤ s.F n) (hF : s.F n ≤ s.T n) (h : Step s regs n a b) : Inv s regs (n :: d) (s.F n) b := by
  have ne : ∀ g ∈ d, g ≠ n := fun g hg e => hn (e ▸ hg)
  have un : ∀ (f : Nat → Int) (v : Int) (g : Nat), g ∈ d → upd f n v g = f g := fun f v g hg => upd_ne _ _ (ne g hg)
  have old : ∀ g ∈ d, ∀ r : Nat, a.reg g = (r : Int) → exp s n a.held r ≠ some g → s.T g < s.F n := by
    intro g hg r hr hne
    rcases hi.each g hg with ⟨e, _⟩ | ⟨r', _, e, _, e'⟩
    · omega
    · obtain rfl : r = r' := by omega
      rcases e' with e' | e'
      · rcases exp_of (s := s) (n := n) e' with h | h
        · exact absurd h hne
        · exact h
      · omega
  have lt : ∀ x ∈ d, a.spill x < (a.cnt : Int) := fun x hx => by
    rcases hi.each x hx with ⟨_, _, e⟩ | ⟨_, _, _, e, _⟩
    · exact e
    · omega
  have beg : ∀ g ∈ n :: d, s.F g ≤ s.F n := fun g hg => by
    rcases List.mem_cons.1 hg with rfl | hg
    · exact Int.le_refl _
    · have := hi.begun g hg; omega
  obtain ⟨reg, spill, held, cnt⟩ := a
  dsimp only at old lt
  cases h with
  | free f hf h0 hm =>
    dsimp only at h0 hm
    refine ⟨fun r g hh => ?_, fun g hg => ?_, fun g hg h hh hne h0' he => ?_, fun g hg h hh hne h0' => ?_, beg⟩
    · by_cases e : r = f
      · have hh : upd (exp s n held) f (some n) r = some g := hh
        rw [e, upd_self] at hh
        injection hh with hh; subst hh
        exact ⟨e ▸ hf, List.mem_cons_self .., by rw [e]; exact upd_self _ _ _, upd_self _ _ _⟩
      · have hh : upd (exp s n held) f (some n) r = some g := hh
        rw [upd_ne _ _ e] at hh
        obtain ⟨h1, h2⟩ := exp_some hh
        obtain ⟨q1, q2, q3, q4⟩ := hi.held r g h1
        exact ⟨q1, List.mem_cons_of_mem _ q2, (un _ _ g q2).trans q3, (un _ _ g q2).trans q4⟩
    · rcases List.mem_cons.1 hg with rfl | hg
      · exact .inr ⟨f, hf, upd_self _ _ _, upd_self _ _ _, .inl (upd_self _ _ _)⟩
      · rcases hi.each g hg with ⟨e1, e2, e3⟩ | ⟨r, q1, q2, q3, q4⟩
        · exact .inl ⟨(un _ _ g hg).trans e1, by show 0 ≤ upd spill n (-1) g; rw [un _ _ g hg]; exact e2, by show upd spill n (-1) g < (cnt : Int); rw [un _ _ g hg]; exact e3⟩
        · refine .inr ⟨r, q1, (un _ _ g hg).trans q2, (un _ _ g hg).trans q3, ?_⟩
          by_cases ef : exp s n held r = some g
          · left
            have : r ≠ f := fun e => by rw [e, h0] at ef; cases ef
            exact (upd_ne _ _ this).trans ef
          · exact .inr (old g hg r q2 ef)
    · have he : upd reg n (f : Int) g = upd reg n (f : Int) h := he
      have h0' : 0 ≤ upd reg n (f : Int) g := h0'
      rcases List.mem_cons.1 hg with e1 | hg1 <;> rcases List.mem_cons.1 hh with e2 | hh1
      · exact absurd (e1.trans e2.symm) hne
      · subst e1
        rw [upd_self, un _ _ h hh1] at he
        exact .inr (old h hh1 f he.symm (by rw [h0]; simp))
      · subst e2
        rw [upd_self, un _ _ g hg1] at he
        exact .inl (old g hg1 f he (by rw [h0]; simp))
      · rw [un _ _ g hg1] at he h0'
        rw [un _ _ h hh1] at he
        exact hi.apart g hg1 h hh1 hne h0' he
    · show upd spill n (-1) g ≠ upd spill n (-1) h
      have h0' : 0 ≤ upd spill n (-1) g := h0'
      rcases List.mem_cons.1 hg with e1 | hg1
      · subst e1; rw [upd_self] at h0'; omega
      · rw [un _ _ g hg1] at h0' ⊢
        rcases List.mem_cons.1 hh with e2 | hh1
        · subst e2; rw [upd_self]; omega
        · rw [un _ _ h hh1]; exact hi.spills g hg1 h hh1 hne h0'
  | self hs =>
    dsimp only at hs
    refine ⟨fun r g hh => ?_, fun g hg => ?_, fun g hg h hh hne h0' he => ?_, fun g hg h hh hne h0' => ?_, beg⟩
    · obtain ⟨h1, h2⟩ := exp_some hh
      obtain ⟨q1, q2, q3, q4⟩ := hi.held r g h1
      exact ⟨q1, List.mem_cons_of_mem _ q2, (un _ _ g q2).trans q3, (un _ _ g q2).trans q4⟩
    · rcases List.mem_cons.1 hg with rfl | hg
      · left
        refine ⟨upd_self _ _ _, ?_, ?_⟩
        · show 0 ≤ upd spill g (cnt : Int) g
          rw [upd_self]; omega
        · show upd spill g (cnt : Int) g < ((cnt + 1 : Nat) : Int)
          rw [upd_self]; omega
      · rcases hi.each g hg with ⟨e1, e2, e3⟩ | ⟨r, q1, q2, q3, q4⟩
        · left
          dsimp only at e2 e3
          refine ⟨(un _ _ g hg).trans e1, ?_, ?_⟩
          · show 0 ≤ upd spill n (cnt : Int) g
            rw [un _ _ g hg]; exact e2
          · show upd spill n (cnt : Int) g < ((cnt + 1 : Nat) : Int)
            rw [un _ _ g hg]; omega
        · refine .inr ⟨r, q1, (un _ _ g hg).trans q2, (un _ _ g hg).trans q3, ?_⟩
          by_cases ef : exp s n held r = some g
          · exact .inl ef
          · exact .inr (old g hg r q2 ef)
    · have he : upd reg n (-1) g = upd reg n (-1) h := he
      have h0' : 0 ≤ upd reg n (-1) g := h0'
      rcases List.mem_cons.1 hg with e1 | hg1
      · subst e1; rw [upd_self] at h0'; omega
      · rw [un _ _ g hg1] at h0' he
        rcases List.mem_cons.1 hh with e2 | hh1
        · subst e2; rw [upd_self] at he; omega
        · rw [un _ _ h hh1] at he; exact hi.apart g hg1 h hh1 hne h0' he
    · show upd spill n (cnt : Int) g ≠ upd spill n (cnt : Int) h
      have h0' : 0 ≤ upd spill n (cnt : Int) g := h0'
      rcases List.mem_cons.1 hg with e1 | hg1 <;> rcases List.mem_cons.1 hh with e2 | hh1
      · exact absurd (e1.trans e2.symm) hne
      · subst e1; rw [upd_self, un _ _ h hh1]; have := lt h hh1; omega
      · subst e2; rw [upd_self, un _ _ g hg1]; have := lt g hg1; omega
      · rw [un _ _ g hg1] at h0' ⊢
        rw [un _ _ h hh1]; exact hi.spills g hg1 h hh1 hne h0'
  | evict r g0 hr hg0 hw hm =>
    dsimp only at hg0 hm
    obtain ⟨k1, k2⟩ := exp_some hg0
    obtain ⟨k3, k4, k5, k6⟩ := hi.held r g0 k1
    dsimp only at k5 k6
    have n0 : g0 ≠ n := ne g0 k4
    have one : ∀ r', exp s n held r' = some g0 → r' = r := fun r' hr' => by
      obtain ⟨_, _, e, _⟩ := hi.held r' g0 (exp_some hr').1
      dsimp only at e
      omega
    have reg' : ∀ x ∈ d, x ≠ g0 → upd (upd reg g0 (-1)) n (r : Int) x = reg x := fun x hx hne => by rw [un _ _ x hx, upd_ne _ _ hne]
    have spl' : ∀ x ∈ d, x ≠ g0 → upd (upd spill n (-1)) g0 (cnt : Int) x = spill x := fun x hx hne => by rw [upd_ne _ _ hne, un _ _ x hx]
    have regn : upd (upd reg g0 (-1)) n (r : Int) n = (r : Int) := upd_self _ _ _
    have reg0 : upd (upd reg g0 (-1)) n (r : Int) g0 = -1 := by rw [upd_ne _ _ n0, upd_self]
    have spln : upd (upd spill n (-1)) g0 (cnt : Int) n = -1 := by rw [upd_ne _ _ (Ne.symm n0), upd_self]
    have spl0 : upd (upd spill n (-1)) g0 (cnt : Int) g0 = (cnt : Int) := upd_self _ _ _
    refine ⟨fun r' g hh => ?_, fun g hg => ?_, fun g hg h hh hne h0' he => ?_, fun g hg h hh hne h0' => ?_, beg⟩
    · have hh : upd (exp s n held) r (some n) r' = some g := hh
      by_cases e : r' = r
      · rw [e, upd_self] at hh
        injection hh with hh; subst hh
        exact ⟨e ▸ hr, List.mem_cons_self .., by rw [e]; exact regn, spln⟩
      · rw [upd_ne _ _ e] at hh
        obtain ⟨h1, h2⟩ := exp_some hh
        obtain ⟨q1, q2, q3, q4⟩ := hi.held r' g h1
        have hne : g ≠ g0 := fun e' => e (one r' (e' ▸ hh))
        exact ⟨q1, List.mem_cons_of_mem _ q2, (reg' g q2 hne).trans q3, (spl' g q2 hne).trans q4⟩
    · rcases List.mem_cons.1 hg with e1 | hg1
      · subst e1
        exact .inr ⟨r, hr, regn, spln, .inl (upd_self _ _ _)⟩
      · by_cases e0 : g = g0
        · subst e0
          refine .inl ⟨reg0, ?_, ?_⟩
          · show 0 ≤ upd (upd spill n (-1)) g (cnt : Int) g
            rw [spl0]; omega
          · show upd (upd spill n (-1)) g (cnt : Int) g < ((cnt + 1 : Nat) : Int)
            rw [spl0]; omega
        · rcases hi.each g hg1 with ⟨e1, e2, e3⟩ | ⟨r', q1, q2, q3, q4⟩
          · left
            dsimp only at e2 e3
            refine ⟨(reg' g hg1 e0).trans e1, ?_, ?_⟩
            · show 0 ≤ upd (upd spill n (-1)) g0 (cnt : Int) g
              rw [spl' g hg1 e0]; exact e2
            · show upd (upd spill n (-1)) g0 (cnt : Int) g < ((cnt + 1 : Nat) : Int)
              rw [spl' g hg1 e0]; omega
          · refine .inr ⟨r', q1, (reg' g hg1 e0).trans q2, (spl' g hg1 e0).trans q3, ?_⟩
            by_cases ef : exp s n held r' = some g
            · left
              have : r' ≠ r := fun e => by
                rw [e, hg0] at ef
                injection ef with ef
                exact e0 ef.symm
              exact (upd_ne _ _ this).trans ef
            · exact .inr (old g hg1 r' q2 ef)
    · have he : upd (upd reg g0 (-1)) n (r : Int) g = upd (upd reg g0 (-1)) n (r : Int) h := he
      have h0' : 0 ≤ upd (upd reg g0 (-1)) n (r : Int) g := h0'
      have key : ∀ x ∈ d, x ≠ g0 → reg x = (r : Int) → s.T x < s.F n := fun x hx hxn hxr => old x hx r hxr (fun e => hxn (by rw [hg0] at e; injection e with e; exact e.symm))
      rcases List.mem_cons.1 hg with e1 | hg1 <;> rcases List.mem_cons.1 hh with e2 | hh1
      · exact absurd (e1.trans e2.symm) hne
      · subst e1
        by_cases e0 : h = g0
        · subst e0; rw [regn, reg0] at he; omega
        · rw [regn, reg' h hh1 e0] at he
          exact .inr (key h hh1 e0 he.symm)
      · subst e2
        by_cases e0 : g = g0
        · subst e0; rw [reg0] at h0'; omega
        · rw [regn, reg' g hg1 e0] at he
          exact .inl (key g hg1 e0 he)
      · by_cases e0 : g = g0
        · subst e0; rw [reg0] at h0'; omega
        · rw [reg' g hg1 e0] at h0' he
          by_cases e0' : h = g0
          · subst e0'; rw [reg0] at he; omega
          · rw [reg' h hh1 e0'] at he
            exact hi.apart g hg1 h hh1 hne h0' he
    · show upd (upd spill n (-1)) g0 (cnt : Int) g ≠ upd (upd spill n (-1)) g0 (cnt : Int) h
      have h0' : 0 ≤ upd (upd spill n (-1)) g0 (cnt : Int) g := h0'
      rcases List.mem_cons.1 hg with e1 | hg1
      · subst e1; rw [spln] at h0'; omega
      · rcases List.mem_cons.1 hh with e2 | hh1
        · subst e2; rw [spln]; omega
        · by_cases e0 : g = g0
          · subst e0
            rw [spl0, spl' h hh1 (fun e => hne e.symm)]
            have := lt h hh1; omega
          · rw [spl' g hg1 e0] at h0' ⊢
            by_cases e0' : h = g0
            · subst e0'
              rw [spl0]
              have := lt g hg1; omega
            · rw [spl' h hh1 e0']
              exact hi.spills g hg1 h hh1 hne h0'
end AlScan
namespace AlSo
structure Ord (lt : Nat → Nat → Prop) : Prop where
  trans : ∀ x y z, lt x y → lt y z → lt x z
  irr : ∀ x, ¬ lt x x
  tot : ∀ x y, x ≠ y → lt x y ∨ lt y x
def SortedOn (lt : Nat → Nat → Prop) (D : Nat → Nat) (a b : Nat) : Prop := ∀ i j, a ≤ i → i < j → j < b → lt (D i) (D j)
structure Same (D D' : Nat → Nat) (a b : Nat) : Prop where
  out : ∀ i, i < a ∨ b ≤ i → D' i = D i
  to : ∀ i, a ≤ i → i < b → ∃ j, a ≤ j ∧ j < b ∧ D' j = D i
  fro : ∀ j, a ≤ j → j < b → ∃ i, a ≤ i ∧ i < b ∧ D' j = D i
theorem Same.refl (D : Nat → Nat) (a b : Nat) : Same D D a b := ⟨fun _ _ => rfl, fun i h1 h2 => ⟨i, h1, h2, rfl⟩, fun j h1 h2 => ⟨j, h1, h2, rfl⟩⟩
theorem Same.trans {D E F : Nat → Nat} {a b : Nat} (h : Same D E a b) (h' : Same E F a b) : Same D F a b := by
  refine ⟨fun i hi => (h'.out i hi).trans (h.out i hi), fun i h1 h2 => ?_, fun k h1 h2 => ?_⟩
  · obtain ⟨j, j1, j2, e⟩ := h.to i h1 h2
    obtain ⟨k, k1, k2, e'⟩ := h'.to j j1 j2
    exact ⟨k, k1, k2, e'.trans e⟩
  · obtain ⟨j, j1, j2, e⟩ := h'.fro k h1 h2
    obtain ⟨i, i1, i2, e'⟩ := h.fro j j1 j2
    exact ⟨i, i1, i2, e.trans e'⟩
theorem Same.wide {D E : Nat → Nat} {a b c d : Nat} (h : Same D E a b) (h1 : c ≤ a) (h2 : b ≤ d) : Same D E c d := by
  refine ⟨fun i hi => h.out i (by omega), fun i i1 i2 => ?_, fun j j1 j2 => ?_⟩
  · by_cases hi : a ≤ i ∧ i < b
    · obtain ⟨j, j1, j2, e⟩ := h.to i hi.1 hi.2
      exact ⟨j, by omega, by omega, e⟩
    · exact ⟨i, i1, i2, h.out i (by omega)⟩
  · by_cases hj : a ≤ j ∧ j < b
    · obtain ⟨i, i1, i2, e⟩ := h.fro j hj.1 hj.2
      exact ⟨i, by omega, by omega, e⟩
    · exact ⟨j, j1, j2, h.out j (by omega)⟩
def rot (D : Nat → Nat) (a m b : Nat) : Nat → Nat := fun i => if a ≤ i ∧ i < b then (if i < a + (b - m) then D (i + (m - a)) else D (i - (b - m))) else D i
theorem rot_same (D : Nat → Nat) {a m b : Nat} (h1 : a ≤ m) (h2 : m ≤ b) : Same D (rot D a m b) a b := by
  refine ⟨fun i hi => if_neg (by omega), fun i i1 i2 => ?_, fun j j1 j2 => ?_⟩
  · by_cases h : i < m
    · refine ⟨i + (b - m), by omega, by omega, ?_⟩
      unfold rot
      rw [if_pos (by omega), if_neg (by omega)]
      all_goals first | rfl | (congr 1; done) | (congr 1; omega)
    · refine ⟨i - (m - a), by omega, by omega, ?_⟩
      unfold rot
      rw [if_pos (by omega), if_pos (by omega)]
      all_goals first | rfl | (congr 1; done) | (congr 1; omega)
  · unfold rot
    rw [if_pos ⟨j1, j2⟩]
    by_cases h : j < a + (b - m)
    · rw [if_pos h]; exact ⟨j + (m - a), by omega, by omega, rfl⟩
    · rw [if_neg h]; exact ⟨j - (b - m), by omega, by omega, rfl⟩
def swapR (D : Nat → Nat) (p q k : Nat) : Nat → Nat := fun i => if p ≤ i ∧ i < p + k then D (i + (q - p)) else if q ≤ i ∧ i < q + k then D (i - (q - p)) else D i
theorem rot_left (D : Nat → Nat) {m i j : Nat} (hi : i ≤ m) (hij : j < i) (hj : 0 < j) : rot D (m - i) m (m + j) = rot (swapR D (m - i) m j) (m - (i - j)) m (m + j) := by
  funext k
  unfold rot swapR
  by_cases h1 : m - i ≤ k ∧ k < m + j
  · rw [if_pos h1]
    by_cases h2 : k < m - i + (m + j - m)
    · rw [if_pos h2, if_neg (by omega), if_pos (by omega)]
      first | done | rfl | (congr 1; done) | (congr 1; omega)
    · rw [if_neg h2, if_pos (by omega)]
      by_cases h3 : k < m - (i - j) + (m + j - m)
      · rw [if_pos h3, if_neg (by omega)]
        by_cases h4 : m ≤ k + (m - (m - (i - j)))
        · rw [if_pos (by omega)] <;> first | rfl | (congr 1; done) | (congr 1; omega)
        · omega
      · rw [if_neg h3, if_neg (by omega), if_neg (by omega)]
  · rw [if_neg h1, if_neg (by omega), if_neg (by omega), if_neg (by omega)]
theorem rot_right (D : Nat → Nat) {m i j : Nat} (hi : i ≤ m) (hij : i < j) (h0 : 0 < i) : rot D (m - i) m (m + j) = rot (swapR D (m - i) (m + j - i) i) (m - i) m (m + (j - i)) := by
  funext k
  unfold rot swapR
  by_cases h1 : m - i ≤ k ∧ k < m + j
  · rw [if_pos h1]
    by_cases h2 : k < m - i + (m + j - m)
    · rw [if_pos h2]
      by_cases h3 : k < m + (j - i)
      · rw [if_pos (by omega)]
        by_cases h4 : k < m - i + (m + (j - i) - m)
        · rw [if_pos h4, if_neg (by omega), if_neg (by omega)]
        · rw [if_neg h4, if_pos (by omega)]
          first | rfl | (congr 1; done) | (congr 1; omega)
      · omega
    · rw [if_neg h2, if_neg (by omega), if_neg (by omega), if_pos (by omega)]
      all_goals first | rfl | (congr 1; done) | (congr 1; omega)
  · rw [if_neg h1, if_neg (by omega), if_neg (by omega), if_neg (by omega)]
theorem rot_even (D : Nat → Nat) {m i : Nat} (hi : i ≤ m) : rot D (m - i) m (m + i) = swapR D (m - i) m i := by
  funext k
  unfold rot swapR
  by_cases h1 : m - i ≤ k ∧ k < m + i
  · rw [if_pos h1]
    by_cases h2 : k < m - i + (m + i - m)
    · rw [if_pos h2, if_pos (by omega)]
    · rw [if_neg h2, if_neg (by omega), if_pos (by omega)]
      all_goals first | rfl | (congr 1; done) | (congr 1; omega)
  · rw [if_neg h1, if_neg (by omega), if_neg (by omega)]
theorem swapR_zero (D : Nat → Nat) (p q : Nat) : swapR D p q 0 = D := by
  funext k; unfold swapR; rw [if_neg (by omega), if_neg (by omega)]
theorem swapR_succ (D : Nat → Nat) {p q k : Nat} (h : p + k < q) : swapR D p q (k + 1) = fun i => if i = p + k then swapR D p q k (q + k) else if i = q + k then swapR D p q k (p + k) else swapR D p q k i := by
  funext i
  unfold swapR
  by_cases h1 : i = p + k
  · rw [if_pos h1, if_pos (by omega), if_neg (by omega), if_neg (by omega)]; congr 1; omega
  · rw [if_neg h1]
    by_cases h2 : i = q + k
    · rw [if_pos h2, if_neg (by omega), if_pos (by omega), if_neg (by omega), if_neg (by omega)]; congr 1; omega
    · rw [if_neg h2]
      by_cases h3 : p ≤ i ∧ i < p + k
      · rw [if_pos (by omega), if_pos h3]
      · rw [if_neg (by omega), if_neg h3]
        by_cases h4 : q ≤ i ∧ i < q + k
        · rw [if_pos (by omega), if_pos h4]
        · rw [if_neg (by omega), if_neg h4]
theorem sorted_join {lt : Nat → Nat → Prop} {D : Nat → Nat} {a c b : Nat} (h1 : SortedOn lt D a c) (h2 : SortedOn lt D c b) (h : ∀ i j, a ≤ i → i < c → c ≤ j → j < b → lt (D i) (D j)) : SortedOn lt D a b := by
  intro i j hi hij hj
  by_cases hc : j < c
  · exact h1 i j hi hij hc
  · by_cases hc2 : c ≤ i
    · exact h2 i j hc2 hij hj
    · exact h i j hi (by omega) (by omega) hj
theorem below_same {lt : Nat → Nat → Prop} {D E : Nat → Nat} {a c b : Nat} (h : ∀ i j, a ≤ i → i < c → c ≤ j → j < b → lt (D i) (D j)) (s : Same D E a c ∨ Same D E c b) (hac : a ≤ c) (hcb : c ≤ b) : ∀ i j, a ≤ i → i < c → c ≤ j → j < b → lt (E i) (E j) := by
  intro i j h1 h2 h3 h4
  rcases s with s | s
  · obtain ⟨i', q1, q2, e⟩ := s.fro i h1 h2
    rw [e, s.out j (by omega)]
    exact h i' j q1 q2 h3 h4
  · obtain ⟨j', q1, q2, e⟩ := s.fro j h3 h4
    rw [e, s.out i (by omega)]
    exact h i j' h1 h2 q1 q2
theorem sym_core {lt : Nat → Nat → Prop} (o : Ord lt) {D : Nat → Nat} {a m b mid start : Nat} (ham : a ≤ m) (hmb : m ≤ b) (hL : SortedOn lt D a m) (hR : SortedOn lt D m b) (hs1 : a ≤ start) (hs2 : start ≤ m) (hs3 : m ≤ mid + m - start) (hs4 : mid + m - start ≤ b) (hmid : a ≤ mid) (hmid2 : mid ≤ b)
    (h1 : a < start → mid + m - start < b → lt (D (start - 1)) (D (mid + m - start))) (h2 : start < m → m < mid + m - start → lt (D (mid + m - start - 1)) (D start)) :
    SortedOn lt (rot D start m (mid + m - start)) a start ∧ SortedOn lt (rot D start m (mid + m - start)) start mid ∧ SortedOn lt (rot D start m (mid + m - start)) mid (mid + m - start) ∧ SortedOn lt (rot D start m (mid + m - start)) (mid + m - start) b ∧
    ∀ i j, a ≤ i → i < mid → mid ≤ j → j < b → lt (rot D start m (mid + m - start) i) (rot D start m (mid + m - start) j) := by
  have e1 : ∀ i, i < start → rot D start m (mid + m - start) i = D i := fun i hi => if_neg (by omega)
  have e2 : ∀ i, start ≤ i → i < mid → rot D start m (mid + m - start) i = D (i + (m - start)) := fun i h1 h2 => by
    unfold rot; rw [if_pos (by omega), if_pos (by omega)]
  have e3 : ∀ i, mid ≤ i → i < mid + m - start → rot D start m (mid + m - start) i = D (i - (mid + m - start - m)) := fun i h1 h2 => by
    unfold rot; rw [if_pos (by omega), if_neg (by omega)]
  have e4 : ∀ i, mid + m - start ≤ i → rot D start m (mid + m - start) i = D i := fun i hi => if_neg (by omega)
  have le : ∀ p q, a ≤ p → p ≤ q → q < m → D p = D q ∨ lt (D p) (D q) := fun p q h1 h2 h3 => by
    rcases Nat.lt_or_eq_of_le h2 with h | h
    · exact .inr (hL p q h1 h h3)
    · exact .inl (by rw [h])
  have re : ∀ p q, m ≤ p → p ≤ q → q < b → D p = D q ∨ lt (D p) (D q) := fun p q h1 h2 h3 => by
    rcases Nat.lt_or_eq_of_le h2 with h | h
    · exact .inr (hR p q h1 h h3)
    · exact .inl (by rw [h])
  have tr : ∀ x y z w, (x = y ∨ lt x y) → lt y z → (z = w ∨ lt z w) → lt x w := fun x y z w p q r => by
    rcases p with rfl | p <;> rcases r with rfl | r
    · exact q
    · exact o.trans _ _ _ q r
    · exact o.trans _ _ _ p q
    · exact o.trans _ _ _ (o.trans _ _ _ p q) r
  refine ⟨fun i j p q r => ?_, fun i j p q r => ?_, fun i j p q r => ?_, fun i j p q r => ?_, fun i j p q r s => ?_⟩
  · rw [e1 i (by omega), e1 j r]; exact hL i j p q (by omega)
  · rw [e2 i p (by omega), e2 j (by omega) r]; exact hR _ _ (by omega) (by omega) (by omega)
  · rw [e3 i p (by omega), e3 j (by omega) r]; exact hL _ _ (by omega) (by omega) (by omega)
  · rw [e4 i p, e4 j (by omega)]; exact hR _ _ (by omega) q r
  · by_cases c1 : i < start
    · rw [e1 i c1]
      by_cases c2 : j < mid + m - start
      · rw [e3 j r c2]; exact hL _ _ p (by omega) (by omega)
      · rw [e4 j (by omega)]
        exact tr _ _ _ _ (le i (start - 1) p (by omega) (by omega)) (h1 (by omega) (by omega)) (re (mid + m - start) j (by omega) (by omega) s)
    · rw [e2 i (by omega) q]
      by_cases c2 : j < mid + m - start
      · rw [e3 j r c2]
        exact tr _ _ _ _ (re _ (mid + m - start - 1) (by omega) (by omega) (by omega)) (h2 (by omega) (by omega)) (le start _ (by omega) (by omega) (by omega))
      · rw [e4 j (by omega)]; exact hR _ _ (by omega) (by omega) s
end AlSo
namespace AlSo
open AlScan (upd)
def ins (E : Nat → Nat) (j i : Nat) : Nat → Nat := fun k => if k = j then E i else if j < k ∧ k ≤ i then E (k - 1) else E k
theorem ins_self (E : Nat → Nat) (i : Nat) : ins E i i = E := by
  funext k; unfold ins
  by_cases h : k = i
  · rw [if_pos h, h]
  · rw [if_neg h, if_neg (by omega)]
theorem ins_step (E : Nat → Nat) {j i : Nat} (hj : 0 < j) (hji : j ≤ i) : upd (upd (ins E j i) j (ins E j i (j - 1))) (j - 1) (ins E j i j) = ins E (j - 1) i := by
  funext k
  have h1 : ins E j i j = E i := if_pos rfl
  have h2 : ins E j i (j - 1) = E (j - 1) := by unfold ins; rw [if_neg (by omega), if_neg (by omega)]
  rw [h1, h2]
  unfold upd ins
  by_cases c1 : k = j - 1
  · simp only [if_pos c1]
  · simp only [if_neg c1]
    by_cases c2 : k = j
    · subst c2
      rw [if_pos rfl, if_pos (by omega)]
    · rw [if_neg c2, if_neg c2]
      by_cases c3 : j < k ∧ k ≤ i
      · rw [if_pos c3, if_pos (by omega)]
      · rw [if_neg c3, if_neg (by omega)]
theorem ins_same (E : Nat → Nat) {a j i : Nat} (haj : a ≤ j) (hji : j ≤ i) : Same E (ins E j i) a (i + 1) := by
  refine ⟨fun k hk => ?_, fun k h1 h2 => ?_, fun k h1 h2 => ?_⟩
  · unfold ins; rw [if_neg (by omega), if_neg (by omega)]
  · by_cases c1 : k = i
    · exact ⟨j, haj, by omega, by unfold ins; rw [if_pos rfl, c1]⟩
    · by_cases c2 : j ≤ k
      · exact ⟨k + 1, by omega, by omega, by unfold ins; rw [if_neg (by omega), if_pos (by omega)]; rfl⟩
      · exact ⟨k, h1, h2, by unfold ins; rw [if_neg (by omega), if_neg (by omega)]⟩
  · by_cases c1 : k = j
    · exact ⟨i, by omega, by omega, by unfold ins; rw [if_pos c1]⟩
    · by_cases c2 : j < k ∧ k ≤ i
      · exact ⟨k - 1, by omega, by omega, by unfold ins; rw [if_neg c1, if_pos c2]⟩
      · exact ⟨k, h1, h2, by unfold ins; rw [if_neg c1, if_neg c2]⟩
def ord (F : Nat → Int) (x y : Nat) : Prop := F x < F y ∨ (F x = F y ∧ x < y)
theorem ord_ok (F : Nat → Int) : Ord (ord F) := ⟨fun x y z h h' => by unfold ord at *; omega, fun x h => by unfold ord at h; omega, fun x y h => by unfold ord; omega⟩
theorem ins_sorted {F : Nat → Int} {E : Nat → Nat} {a j i : Nat} (haj : a ≤ j) (hji : j ≤ i) (hs : SortedOn (ord F) E a i) (hx : ∀ k, a ≤ k → k < i → E k < E i) (hup : ∀ k, j ≤ k → k < i → F (E i) < F (E k)) (hend : j = a ∨ ¬ F (E i) < F (E (j - 1))) : SortedOn (ord F) (ins E j i) a (i + 1) := by
  have lo : ∀ k, k < j → ins E j i k = E k := fun k h => by unfold ins; rw [if_neg (by omega), if_neg (by omega)]
  have mi : ins E j i j = E i := if_pos rfl
  have hi : ∀ k, j < k → k ≤ i → ins E j i k = E (k - 1) := fun k h h' => by unfold ins; rw [if_neg (by omega), if_pos ⟨h, h'⟩]
  intro p q h1 h2 h3
  rcases Nat.lt_trichotomy p j with c | c | c
  · rw [lo p c]
    rcases Nat.lt_trichotomy q j with d | d | d
    · rw [lo q d]; exact hs p q h1 h2 (by omega)
    · rw [d, mi]
      have hb : ¬ F (E i) < F (E (j - 1)) := by
        rcases hend with e | e
        · omega
        · exact e
      have hle : F (E p) ≤ F (E (j - 1)) := by
        by_cases e : p = j - 1
        · rw [e]; exact Int.le_refl _
        · have := hs p (j - 1) h1 (by omega) (by omega)
          unfold ord at this; omega
      have := hx p h1 (by omega)
      unfold ord; omega
    · rw [hi q d (by omega)]; exact hs p (q - 1) h1 (by omega) (by omega)
  · rw [c, mi, hi q (by omega) (by omega)]
    exact .inl (hup (q - 1) (by omega) (by omega))
  · rw [hi p c (by omega), hi q (by omega) (by omega)]
    exact hs (p - 1) (q - 1) (by omega) (by omega) (by omega)
end AlSo
namespace AlHp
structure Wk (lt : Nat → Nat → Prop) : Prop where
  irr : ∀ x, ¬ lt x x
  trans : ∀ x y z, lt x y → lt y z → lt x z
  neg : ∀ x y z, ¬ lt x y → ¬ lt y z → ¬ lt x z
theorem Wk.asym {lt : Nat → Nat → Prop} (o : Wk lt) {x y : Nat} (h : lt x y) : ¬ lt y x := fun h' => o.irr _ (o.trans _ _ _ h h')
def sw (D : Nat → Nat) (i j : Nat) : Nat → Nat := fun k => if k = i then D j else if k = j then D i else D k
theorem sw_l (D : Nat → Nat) (i j : Nat) : sw D i j i = D j := if_pos rfl
theorem sw_r (D : Nat → Nat) {i j : Nat} (h : j ≠ i) : sw D i j j = D i := by unfold sw; rw [if_neg h, if_pos rfl]
theorem sw_o (D : Nat → Nat) {i j k : Nat} (h : k ≠ i) (h' : k ≠ j) : sw D i j k = D k := by unfold sw; rw [if_neg h, if_neg h']
def Ok (lt : Nat → Nat → Prop) (D : Nat → Nat) (k : Nat) : Prop := ¬ lt (D k) (D ((k - 1) / 2))
def Hok (lt : Nat → Nat → Prop) (D : Nat → Nat) (n : Nat) : Prop := ∀ k, 0 < k → k < n → Ok lt D k
structure Up (lt : Nat → Nat → Prop) (D : Nat → Nat) (n j : Nat) : Prop where
  a : ∀ k, 0 < k → k < n → k ≠ j → Ok lt D k
  b : 0 < j → ∀ k, 0 < k → k < n → (k - 1) / 2 = j → ¬ lt (D k) (D ((j - 1) / 2))
theorem Up.fin {lt : Nat → Nat → Prop} {D : Nat → Nat} {n j : Nat} (h : Up lt D n j) (e : j = 0 ∨ Ok lt D j) : Hok lt D n := fun k h1 h2 => by
  by_cases hk : k = j
  · rcases e with e | e
    · omega
    · rw [hk]; exact e
  · exact h.a k h1 h2 hk
theorem Up.step {lt : Nat → Nat → Prop} (o : Wk lt) {D : Nat → Nat} {n j : Nat} (h : Up lt D n j) (hj : 0 < j) (hjn : j < n) (hl : lt (D j) (D ((j - 1) / 2))) : Up lt (sw D ((j - 1) / 2) j) n ((j - 1) / 2) := by
  obtain ⟨p, hp⟩ : ∃ p, (j - 1) / 2 = p := ⟨_, rfl⟩
  rw [hp] at hl ⊢
  have hpj : p < j := by omega
  refine ⟨fun k h1 h2 hk => ?_, fun hp0 k h1 h2 hk => ?_⟩
  · unfold Ok
    by_cases e1 : k = j
    · rw [e1, hp, sw_l, sw_r D (by omega)]; exact o.asym hl
    · rw [sw_o D hk e1]
      by_cases e2 : (k - 1) / 2 = j
      · rw [e2, sw_r D (by omega)]
        have := h.b hj k h1 h2 e2
        rwa [hp] at this
      · by_cases e3 : (k - 1) / 2 = p
        · rw [e3, sw_l]
          have := h.a k h1 h2 e1
          unfold Ok at this
          rw [e3] at this
          exact fun hc => this (o.trans _ _ _ hc hl)
        · rw [sw_o D e3 e2]; exact h.a k h1 h2 e1
  · rw [sw_o D (show (p - 1) / 2 ≠ p by omega) (show (p - 1) / 2 ≠ j by omega)]
    have hpo := h.a p hp0 (by omega) (by omega)
    by_cases e1 : k = j
    · rw [e1, sw_r D (by omega)]; exact hpo
    · rw [sw_o D (by omega) e1]
      have := h.a k h1 h2 e1
      unfold Ok at this
      rw [hk] at this
      exact o.neg _ _ _ this hpo
structure Dn (lt : Nat → Nat → Prop) (D : Nat → Nat) (n i0 i : Nat) : Prop where
  a : ∀ k, 0 < k → k < n → (k - 1) / 2 ≠ i → k ≠ i0 → Ok lt D k
  b : ∀ k, 0 < k → k < n → (k - 1) / 2 = i → 0 < i → ¬ lt (D k) (D ((i - 1) / 2))
  c : i ≠ i0 → 0 < i0 → Ok lt D i0
  i : i0 ≤ i
theorem Dn.fin {lt : Nat → Nat → Prop} {D : Nat → Nat} {n i0 i : Nat} (h : Dn lt D n i0 i) (e : ∀ k, 0 < k → k < n → (k - 1) / 2 = i → ¬ lt (D k) (D i)) :
    (∀ k, 0 < k → k < n → k ≠ i0 → Ok lt D k) ∧ (i ≠ i0 → Hok lt D n) := by
  have key : ∀ k, 0 < k → k < n → k ≠ i0 → Ok lt D k := fun k h1 h2 h3 => by
    by_cases e1 : (k - 1) / 2 = i
    · unfold Ok; rw [e1]; exact e k h1 h2 e1
    · exact h.a k h1 h2 e1 h3
  refine ⟨key, fun hi k h1 h2 => ?_⟩
  by_cases e1 : k = i0
  · rw [e1]; exact h.c hi (by omega)
  · exact key k h1 h2 e1
theorem Dn.step {lt : Nat → Nat → Prop} (o : Wk lt) {D : Nat → Nat} {n i0 i j : Nat} (h : Dn lt D n i0 i) (hj : 0 < j) (hjn : j < n) (hp : (j - 1) / 2 = i) (hm : ∀ k, 0 < k → k < n → (k - 1) / 2 = i → ¬ lt (D k) (D j)) (hl : lt (D j) (D i)) : Dn lt (sw D i j) n i0 j := by
  have h0 := h.i
  have hij : i < j := by omega
  refine ⟨fun k h1 h2 h3 h4 => ?_, fun k h1 h2 h3 h4 => ?_, fun h1 h2 => ?_, by omega⟩
  · unfold Ok
    by_cases e1 : k = i
    · rw [e1, sw_l, sw_o D (by omega) (by omega)]
      exact h.b j hj hjn hp (by omega)
    · by_cases e2 : k = j
      · rw [e2, hp, sw_l, sw_r D (by omega)]; exact o.asym hl
      · rw [sw_o D e1 e2]
        by_cases e3 : (k - 1) / 2 = i
        · rw [e3, sw_l]; exact hm k h1 h2 e3
        · rw [sw_o D e3 h3]; exact h.a k h1 h2 e3 h4
  · rw [sw_o D (by omega) (by omega), hp, sw_l]
    have := h.a k h1 h2 (by omega) (by omega)
    unfold Ok at this
    rwa [h3] at this
  · unfold Ok
    by_cases e1 : i = i0
    · rw [← e1, sw_l, sw_o D (by omega) (by omega)]; exact h.b j hj hjn hp (by omega)
    · rw [sw_o D (by omega) (by omega), sw_o D (by omega) (by omega)]; exact h.c e1 h2
theorem Hok.least {lt : Nat → Nat → Prop} (o : Wk lt) {D : Nat → Nat} {n : Nat} (h : Hok lt D n) : ∀ k, k < n → ¬ lt (D k) (D 0) := by
  intro k
  induction k using Nat.strongRecOn with
  | _ k ih =>
    intro hk
    by_cases h0 : k = 0
    · rw [h0]; exact o.irr _
    · exact o.neg _ _ _ (h k (by omega) hk) (ih ((k - 1) / 2) (by omega) (by omega))
def Mem (D : Nat → Nat) (n x : Nat) : Prop := ∃ i, i < n ∧ D i = x
def Inj (D : Nat → Nat) (n : Nat) : Prop := ∀ i j, i < n → j < n → D i = D j → i = j
theorem sw_mem (D : Nat → Nat) {n i j : Nat} (hi : i < n) (hj : j < n) (x : Nat) : Mem (sw D i j) n x ↔ Mem D n x := by
  constructor
  · rintro ⟨k, hk, e⟩
    unfold sw at e
    by_cases e1 : k = i
    · rw [if_pos e1] at e; exact ⟨j, hj, e⟩
    · rw [if_neg e1] at e
      by_cases e2 : k = j
      · rw [if_pos e2] at e; exact ⟨i, hi, e⟩
      · rw [if_neg e2] at e; exact ⟨k, hk, e⟩
  · rintro ⟨k, hk, e⟩
    by_cases e1 : k = i
    · by_cases e2 : j = i
      · exact ⟨i, hi, by rw [sw_l, e2, ← e1]; exact e⟩
      · exact ⟨j, hj, by rw [sw_r D e2, ← e1]; exact e⟩
    · by_cases e2 : k = j
      · exact ⟨i, hi, by rw [sw_l, ← e2]; exact e⟩
      · exact ⟨k, hk, by rw [sw_o D e1 e2]; exact e⟩
theorem sw_inj (D : Nat → Nat) {n i j : Nat} (hi : i < n) (hj : j < n) (h : Inj D n) : Inj (sw D i j) n := by
  intro a b ha hb e
  have key : ∀ a, a < n → ∃ a', a' < n ∧ sw D i j a = D a' ∧ (a' = if a = i then j else if a = j then i else a) := fun a ha => by
    unfold sw
    by_cases e1 : a = i
    · exact ⟨j, hj, by rw [if_pos e1], by rw [if_pos e1]⟩
    · by_cases e2 : a = j
      · exact ⟨i, hi, by rw [if_neg e1, if_pos e2], by rw [if_neg e1, if_pos e2]⟩
      · exact ⟨a, ha, by rw [if_neg e1, if_neg e2], by rw [if_neg e1, if_neg e2]⟩
  obtain ⟨a', h1, e1, q1⟩ := key a ha
  obtain ⟨b', h2, e2, q2⟩ := key b hb
  rw [e1, e2] at e
  have := h a' b' h1 h2 e
  rw [q1, q2] at this
  split at this <;> split at this <;> (try split at this) <;> (try split at this) <;> omega
end AlHp
namespace AlHp
theorem Up.snoc {lt : Nat → Nat → Prop} {D : Nat → Nat} {L : Nat} (x : Nat) (h : Hok lt D L) : Up lt (AlScan.upd D L x) (L + 1) L := by
  refine ⟨fun k h1 h2 h3 => ?_, fun h0 k h1 h2 h3 => by omega⟩
  unfold Ok
  rw [AlScan.upd_ne _ _ (by omega), AlScan.upd_ne _ _ (by omega)]
  exact h k h1 (by omega)
theorem mem_snoc (D : Nat → Nat) (L x y : Nat) : Mem (AlScan.upd D L x) (L + 1) y ↔ Mem D L y ∨ y = x := by
  constructor
  · rintro ⟨i, hi, e⟩
    by_cases hl : i = L
    · subst hl; rw [AlScan.upd_self] at e; exact .inr e.symm
    · rw [AlScan.upd_ne _ _ hl] at e; exact .inl ⟨i, by omega, e⟩
  · rintro (⟨i, hi, e⟩ | e)
    · exact ⟨i, by omega, by rw [AlScan.upd_ne _ _ (by omega)]; exact e⟩
    · exact ⟨L, by omega, by rw [AlScan.upd_self, e]⟩
theorem inj_snoc {D : Nat → Nat} {L x : Nat} (h : Inj D L) (hx : ¬ Mem D L x) : Inj (AlScan.upd D L x) (L + 1) := by
  intro i j hi hj e
  by_cases h1 : i = L
  · by_cases h2 : j = L
    · omega
    · rw [h1, AlScan.upd_self, AlScan.upd_ne _ _ h2] at e
      exact absurd ⟨j, by omega, e.symm⟩ hx
  · by_cases h2 : j = L
    · rw [h2, AlScan.upd_self, AlScan.upd_ne _ _ h1] at e
      exact absurd ⟨i, by omega, e⟩ hx
    · rw [AlScan.upd_ne _ _ h1, AlScan.upd_ne _ _ h2] at e
      exact h i j (by omega) (by omega) e
theorem mem_cut {D : Nat → Nat} {M : Nat} (h : Inj D (M + 1)) (y : Nat) : Mem D M y ↔ Mem D (M + 1) y ∧ y ≠ D M := by
  constructor
  · rintro ⟨i, hi, e⟩
    refine ⟨⟨i, by omega, e⟩, fun hc => ?_⟩
    have := h i M (by omega) (by omega) (by rw [e, hc])
    omega
  · rintro ⟨⟨i, hi, e⟩, hn⟩
    have : i ≠ M := fun hc => hn (by rw [← e, hc])
    exact ⟨i, by omega, e⟩
theorem Inj.cut {D : Nat → Nat} {M : Nat} (h : Inj D (M + 1)) : Inj D M := fun i j hi hj e => h i j (by omega) (by omega) e
theorem Hok.cut {lt : Nat → Nat → Prop} {D : Nat → Nat} {M : Nat} (h : Hok lt D (M + 1)) : Hok lt D M := fun k h1 h2 => h k h1 (by omega)
theorem Dn.rem {lt : Nat → Nat → Prop} (o : Wk lt) {D : Nat → Nat} {M i : Nat} (hi : i < M) (h : Hok lt D (M + 1)) : Dn lt (sw D i M) M i i := by
  refine ⟨fun k h1 h2 h3 h4 => ?_, fun k h1 h2 h3 h4 => ?_, fun hc => absurd rfl hc, Nat.le_refl _⟩
  · unfold Ok
    rw [sw_o D (by omega) (by omega), sw_o D (by omega) (by omega)]
    exact h k h1 (by omega)
  · rw [sw_o D (by omega) (by omega), sw_o D (by omega) (by omega)]
    have a := h k h1 (by omega)
    have b := h i h4 (by omega)
    unfold Ok at a b
    rw [h3] at a
    exact o.neg _ _ _ a b
theorem Dn.pop {lt : Nat → Nat → Prop} {D : Nat → Nat} {M : Nat} (h : Hok lt D (M + 1)) : Dn lt (sw D 0 M) M 0 0 := by
  refine ⟨fun k h1 h2 h3 h4 => ?_, fun k h1 h2 h3 h4 => by omega, fun hc => absurd rfl hc, Nat.le_refl _⟩
  unfold Ok
  rw [sw_o D (by omega) (by omega), sw_o D (by omega) (by omega)]
  exact h k h1 (by omega)
theorem gone {D E : Nat → Nat} {M i : Nat} (hi : i < M + 1) (h : Inj D (M + 1)) (hm : ∀ x, Mem E M x ↔ Mem (sw D i M) M x) (hinj : Inj (sw D i M) M → Inj E M) :
    (∀ y, Mem E M y ↔ Mem D (M + 1) y ∧ y ≠ D i) ∧ Inj E M := by
  have h1 := sw_inj D hi (show M < M + 1 by omega) h
  have e : sw D i M M = D i := by
    by_cases hc : M = i
    · rw [hc, sw_l]
    · exact sw_r D hc
  refine ⟨fun y => ?_, hinj h1.cut⟩
  rw [hm y, mem_cut h1 y, e, sw_mem D hi (show M < M + 1 by omega) y]
end AlHp
namespace AlScan
theorem Steps.snoc {s : Sps} {regs n : Nat} {b c : St} : ∀ {l : List Nat} {a : St}, Steps s regs l a b → Step s regs n b c → Steps s regs (l ++ [n]) a c
  | [], _, .nil, h => .cons h .nil
  | _ :: _, _, .cons h t, h' => .cons h (t.snoc h')
def Mid (s : Sps) (n : Nat) (held H : Nat → Option Nat) : Prop := ∀ r, H r = held r ∨ (H r = none ∧ ∃ g, held r = some g ∧ s.T g < s.F n)
theorem Mid.start (s : Sps) (n : Nat) (held : Nat → Option Nat) : Mid s n held held := fun _ => .inl rfl
theorem Mid.step {s : Sps} {n : Nat} {held H : Nat → Option Nat} (h : Mid s n held H) {r g : Nat} (hg : H r = some g) (hT : s.T g < s.F n) : Mid s n held (upd H r none) := by
  intro x
  by_cases e : x = r
  · subst e
    rw [upd_self]
    rcases h x with h | ⟨h, _⟩
    · exact .inr ⟨rfl, g, by rw [← h]; exact hg, hT⟩
    · rw [h] at hg; cases hg
  · rw [upd_ne _ _ e]; exact h x
theorem Mid.fin {s : Sps} {n : Nat} {held H : Nat → Option Nat} (h : Mid s n held H) (ho : ∀ r g, H r = some g → s.F n ≤ s.T g) : H = exp s n held := by
  funext r
  rcases h r with h | ⟨h, g, hg, hT⟩
  · unfold exp
    cases hh : held r with
    | none => rw [h, hh]
    | some g =>
      rw [h, hh]
      simp only
      rw [if_neg (by have := ho r g (by rw [h, hh]); omega)]
  · unfold exp
    rw [hg, h]
    simp only
    rw [if_pos hT]
def Held (H : Nat → Option Nat) (g : Nat) : Prop := ∃ r, H r = some g
def One (H : Nat → Option Nat) (reg : Nat → Int) : Prop := ∀ r g, H r = some g → reg g = (r : Int)
theorem One.mid {s : Sps} {n : Nat} {held H : Nat → Option Nat} {reg : Nat → Int} (o : One held reg) (h : Mid s n held H) : One H reg := fun r g hg => by
  rcases h r with e | ⟨e, _⟩
  · exact o r g (by rw [← e]; exact hg)
  · rw [e] at hg; cases hg
theorem held_upd_none {H : Nat → Option Nat} {reg : Nat → Int} (o : One H reg) {r g : Nat} (hg : H r = some g) (y : Nat) : Held (upd H r none) y ↔ Held H y ∧ y ≠ g := by
  constructor
  · rintro ⟨x, hx⟩
    by_cases e : x = r
    · subst e; rw [upd_self] at hx; cases hx
    · rw [upd_ne _ _ e] at hx
      refine ⟨⟨x, hx⟩, fun hc => e ?_⟩
      subst hc
      have h1 := o x y hx
      have h2 := o r y hg
      omega
  · rintro ⟨⟨x, hx⟩, hne⟩
    refine ⟨x, ?_⟩
    have : x ≠ r := fun e => by subst e; rw [hg] at hx; injection hx with hx; exact hne hx.symm
    rw [upd_ne _ _ this]; exact hx
theorem held_upd_some {H : Nat → Option Nat} {f n : Nat} (hf : H f = none) (y : Nat) : Held (upd H f (some n)) y ↔ Held H y ∨ y = n := by
  constructor
  · rintro ⟨x, hx⟩
    by_cases e : x = f
    · subst e; rw [upd_self] at hx; injection hx with hx; exact .inr hx.symm
    · rw [upd_ne _ _ e] at hx; exact .inl ⟨x, hx⟩
  · rintro (⟨x, hx⟩ | e)
    · have : x ≠ f := fun e => by subst e; rw [hf] at hx; cases hx
      exact ⟨x, by rw [upd_ne _ _ this]; exact hx⟩
    · exact ⟨f, by rw [upd_self, e]⟩
theorem held_upd_swap {H : Nat → Option Nat} {reg : Nat → Int} (o : One H reg) {r g n : Nat} (hg : H r = some g) (y : Nat) : Held (upd H r (some n)) y ↔ (Held H y ∧ y ≠ g) ∨ y = n := by
  have e : upd H r (some n) = upd (upd H r none) r (some n) := by
    funext x; unfold upd; split <;> rfl
  rw [e, held_upd_some (upd_self _ _ _), held_upd_none o hg]
theorem worse_tot {s : Sps} {a b : Nat} (hV : s.V a ≠ s.V b) : worse s a b ∨ worse s b a := by unfold worse; omega
structure At (s : Sps) (regs N k : Nat) (E : Nat → Nat) (a : St) : Prop where
  st : Steps s regs ((List.range k).map E) st0 a
  inv : ∃ d now, Inv s regs d now a ∧ (∀ g, g ∈ d ↔ ∃ j, j < k ∧ E j = g) ∧ ∀ j, k ≤ j → j < N → now ≤ s.F (E j)
  un : ∀ g, (∀ j, j < k → E j ≠ g) → a.reg g = -1 ∧ a.spill g = -1
structure Ordr (s : Sps) (N : Nat) (E : Nat → Nat) : Prop where
  lt : ∀ j, j < N → E j < N
  inj : ∀ i j, i < N → j < N → E i = E j → i = j
  on : ∀ g, g < N → ∃ j, j < N ∧ E j = g
  up : ∀ i j, i < j → j < N → s.F (E i) ≤ s.F (E j)
theorem At.start (s : Sps) (regs N : Nat) (E : Nat → Nat) (h0 : ∀ g, g < N → 0 ≤ s.F g) (o : Ordr s N E) : At s regs N 0 E st0 :=
  ⟨.nil, ⟨[], 0, Inv.start _ _ _, fun g => by simp, fun j _ hj => h0 _ (o.lt j hj)⟩, fun _ _ => ⟨rfl, rfl⟩⟩
theorem At.step {s : Sps} {regs N k : Nat} {E : Nat → Nat} {a b : St} (o : Ordr s N E) (hF : ∀ g, g < N → s.F g ≤ s.T g) (h : At s regs N k E a) (hk : k < N) (hs : Step s regs (E k) a b) : At s regs N (k + 1) E b := by
  obtain ⟨d, now, hi, hd, hn⟩ := h.inv
  have hnd : E k ∉ d := fun hc => by
    obtain ⟨j, hj, e⟩ := (hd _).1 hc
    have := o.inj j k (by omega) hk e
    omega
  refine ⟨?_, ⟨E k :: d, s.F (E k), hs.inv hi hnd (hn k (Nat.le_refl _) hk) (hF _ (o.lt k hk)), fun g => ?_, fun j h1 h2 => o.up k j (by omega) h2⟩, fun g hg => ?_⟩
  · rw [List.range_succ, List.map_append]
    exact h.st.snoc hs
  · rw [List.mem_cons, hd]
    constructor
    · rintro (e | ⟨j, hj, e⟩)
      · exact ⟨k, by omega, e.symm⟩
      · exact ⟨j, by omega, e⟩
    · rintro ⟨j, hj, e⟩
      by_cases hc : j = k
      · exact .inl (by rw [← e, hc])
      · exact .inr ⟨j, by omega, e⟩
  · have hgk : g ≠ E k := fun e => hg k (by omega) e.symm
    obtain ⟨u1, u2⟩ := h.un g (fun j hj => hg j (by omega))
    cases hs with
    | free f hf h0 hm => exact ⟨(upd_ne _ _ hgk).trans u1, (upd_ne _ _ hgk).trans u2⟩
    | self h => exact ⟨(upd_ne _ _ hgk).trans u1, (upd_ne _ _ hgk).trans u2⟩
    | evict r g0 hr hg0 hw hm =>
      have h1 := (hi.held r g0 (exp_some hg0).1).2.1
      have hg0' : g ≠ g0 := fun e => by
        obtain ⟨j, hj, e2⟩ := (hd g0).1 h1
        exact hg j (by omega) (by rw [e2, e])
      exact ⟨by dsimp only; rw [upd_ne _ _ hgk, upd_ne _ _ hg0']; exact u1, by dsimp only; rw [upd_ne _ _ hg0', upd_ne _ _ hgk]; exact u2⟩
theorem At.one {s : Sps} {regs N k : Nat} {E : Nat → Nat} {a : St} (h : At s regs N k E a) : One a.held a.reg := fun r g hg => by
  obtain ⟨d, now, hi, _, _⟩ := h.inv
  exact (hi.held r g hg).2.2.1
theorem At.reg {s : Sps} {regs N k : Nat} {E : Nat → Nat} {a : St} (h : At s regs N k E a) {r g : Nat} (hg : a.held r = some g) : r < regs ∧ ∃ j, j < k ∧ E j = g := by
  obtain ⟨d, now, hi, hd, _⟩ := h.inv
  exact ⟨(hi.held r g hg).1, (hd g).1 (hi.held r g hg).2.1⟩
theorem step_full {s : Sps} {regs n t : Nat} {a : St} {H : Nat → Option Nat} (eH : H = exp s n a.held) (hV : ∀ x y, (Held H x ∨ x = n) → (Held H y ∨ y = n) → x ≠ y → s.V x ≠ s.V y)
    (full : ∀ r, r < regs → H r ≠ none) (ht : Held H t ∨ t = n) (hw : ∀ y, (Held H y ∨ y = n) → ¬ worse s y t) (hr : ∀ r g, H r = some g → r < regs) (hn : ¬ Held H n) (o : One H a.reg) :
    (t = n ∧ Step s regs n a ⟨upd a.reg n (-1), upd a.spill n (a.cnt : Int), H, a.cnt + 1⟩) ∨
    (t ≠ n ∧ ∃ r, r < regs ∧ H r = some t ∧ Step s regs n a ⟨upd (upd a.reg t (-1)) n (r : Int), upd (upd a.spill n (-1)) t (a.cnt : Int), upd H r (some n), a.cnt + 1⟩) := by
  have key : ∀ y, (Held H y ∨ y = n) → y ≠ t → worse s t y := fun y hy hne => (worse_tot (hV t y ht hy (Ne.symm hne))).resolve_right (hw y hy)
  by_cases e : t = n
  · left
    refine ⟨e, ?_⟩
    subst e
    subst eH
    refine .self fun r hr' => ?_
    cases hh : exp s t a.held r with
    | none => exact absurd hh (full r hr')
    | some g =>
      refine ⟨g, rfl, ?_⟩
      by_cases hg : g = t
      · subst hg
        exact absurd ⟨r, hh⟩ hn
      · exact key g (.inl ⟨r, hh⟩) hg
  · right
    obtain ⟨r, hrt⟩ := ht.resolve_right e
    refine ⟨e, r, hr r t hrt, hrt, ?_⟩
    subst eH
    refine .evict r t (hr r t hrt) hrt (key n (.inr rfl) (Ne.symm e)) fun r' hr' => ?_
    cases hh : exp s n a.held r' with
    | none => exact absurd hh (full r' hr')
    | some g =>
      refine ⟨g, rfl, ?_⟩
      by_cases hg : g = t
      · left
        subst hg
        have h1 := o r' g hh
        have h2 := o r g hrt
        omega
      · exact .inr (key g (.inl ⟨r', hh⟩) hg)
end AlScan
namespace AlScan
def Act (held : Nat → Option Nat) (g : Nat) : Prop := ∃ r, held r = some g
structure Regs (regs : Nat) (held : Nat → Option Nat) : Prop where
  lt : ∀ r g, held r = some g → r < regs
  inj : ∀ r r' g, held r = some g → held r' = some g → r = r'
theorem Inv.regs {s : Sps} {regs : Nat} {d : List Nat} {now : Int} {a : St} (h : Inv s regs d now a) : Regs regs a.held :=
  ⟨fun r g e => (h.held r g e).1, fun r r' g e e' => by have := (h.held r g e).2.2.1; have := (h.held r' g e').2.2.1; omega⟩
theorem Regs.exp {s : Sps} {regs n : Nat} {held : Nat → Option Nat} (h : Regs regs held) : Regs regs (exp s n held) :=
  ⟨fun r g e => h.lt r g (exp_some e).1, fun r r' g e e' => h.inj r r' g (exp_some e).1 (exp_some e').1⟩
theorem act_exp {s : Sps} {n g : Nat} {held : Nat → Option Nat} : Act (exp s n held) g ↔ Act held g ∧ s.F n ≤ s.T g := by
  constructor
  · rintro ⟨r, h⟩
    exact ⟨⟨r, (exp_some h).1⟩, (exp_some h).2⟩
  · rintro ⟨⟨r, h⟩, h2⟩
    rcases exp_of (s := s) (n := n) h with e | e
    · exact ⟨r, e⟩
    · omega
theorem Step.act {s : Sps} {regs n : Nat} {a b : St} (hr : Regs regs a.held) (hn : ¬ Act a.held n) (h : Step s regs n a b) :
    (b.cnt = a.cnt ∧ (∀ g, Act b.held g ↔ (Act (exp s n a.held) g ∨ g = n)) ∧ ∃ f, f < regs ∧ exp s n a.held f = none) ∨
    (b.cnt = a.cnt + 1 ∧ (∀ r, r < regs → ∃ g, exp s n a.held r = some g) ∧ ∃ M, (Act (exp s n a.held) M ∨ M = n) ∧ (∀ x, (Act (exp s n a.held) x ∨ x = n) → x = M ∨ worse s M x) ∧ ∀ g, Act b.held g ↔ ((Act (exp s n a.held) g ∨ g = n) ∧ g ≠ M)) := by
  have he := hr.exp (s := s) (n := n)
  have hn' : ¬ Act (exp s n a.held) n := fun h => hn (act_exp.1 h).1
  cases h with
  | free f hf h0 hm =>
    left
    refine ⟨rfl, fun g => ⟨?_, ?_⟩, f, hf, h0⟩
    · rintro ⟨r, hr'⟩
      have hr' : upd (exp s n a.held) f (some n) r = some g := hr'
      by_cases e : r = f
      · rw [e, upd_self] at hr'; injection hr' with e; exact .inr e.symm
      · rw [upd_ne _ _ e] at hr'; exact .inl ⟨r, hr'⟩
    · rintro (⟨r, hr'⟩ | rfl)
      · refine ⟨r, ?_⟩
        show upd (exp s n a.held) f (some n) r = some g
        rw [upd_ne _ _ (fun e => by rw [e, h0] at hr'; cases hr')]; exact hr'
      · exact ⟨f, upd_self _ _ _⟩
  | self hs =>
    right
    refine ⟨rfl, fun r hr' => ?_, n, .inr rfl, fun x hx => ?_, fun g => ⟨fun hg => ⟨.inl hg, fun e => hn' (e ▸ hg)⟩, fun hg => ?_⟩⟩
    · obtain ⟨g, e, _⟩ := hs r hr'; exact ⟨g, e⟩
    · rcases hx with ⟨r, hx⟩ | hx
      · obtain ⟨g, e, hw⟩ := hs r (he.lt r x hx)
        rw [hx] at e; injection e with e; subst e; exact .inr hw
      · exact .inl hx
    · rcases hg.1 with h | h
      · exact h
      · exact absurd h hg.2
  | evict r0 g0 hr0 hg0 hw hm =>
    right
    refine ⟨rfl, fun r hr' => ?_, g0, .inl ⟨r0, hg0⟩, fun x hx => ?_, fun g => ⟨?_, ?_⟩⟩
    · obtain ⟨g, e, _⟩ := hm r hr'; exact ⟨g, e⟩
    · rcases hx with ⟨r, hx⟩ | rfl
      · obtain ⟨g, e, h'⟩ := hm r (he.lt r x hx)
        rw [hx] at e; injection e with e; subst e
        rcases h' with rfl | h'
        · rw [hg0] at hx; injection hx with hx; exact .inl hx.symm
        · exact .inr h'
      · exact .inr hw
    · rintro ⟨r, hr'⟩
      have hr' : upd (exp s n a.held) r0 (some n) r = some g := hr'
      by_cases e : r = r0
      · rw [e, upd_self] at hr'; injection hr' with e; subst e
        exact ⟨.inr rfl, fun e => hn' ⟨r0, hg0.trans (congrArg some e.symm)⟩⟩
      · rw [upd_ne _ _ e] at hr'
        exact ⟨.inl ⟨r, hr'⟩, fun e' => e (he.inj r r0 g hr' (by rw [e']; exact hg0))⟩
    · rintro ⟨⟨r, hr'⟩ | rfl, hne⟩
      · refine ⟨r, ?_⟩
        show upd (exp s n a.held) r0 (some n) r = some g
        rw [upd_ne _ _ (fun e => by rw [e, hg0] at hr'; injection hr' with e; exact hne e.symm)]; exact hr'
      · exact ⟨r0, upd_self _ _ _⟩
theorem few : ∀ (n : Nat) (l : List Nat), l.Nodup → (∀ x ∈ l, x < n) → l.length ≤ n
  | 0, l, _, h => by
    cases l with
    | nil => exact Nat.le_refl _
    | cons a l => exact absurd (h a (List.mem_cons_self ..)) (by omega)
  | n + 1, l, hd, h => by
    have h1 := few n (l.erase n) (hd.erase n) (fun x hx => by
      have hx' := List.mem_of_mem_erase hx
      have : x ≠ n := fun e => by
        subst e
        exact (List.Nodup.mem_erase_iff hd).1 hx |>.1 rfl
      have := h x hx'; omega)
    have h2 : l.length ≤ (l.erase n).length + 1 := by
      rw [List.length_erase]; split <;> omega
    omega
theorem full_list {regs : Nat} {held : Nat → Option Nat} (h : Regs regs held) (hf : ∀ r, r < regs → ∃ g, held r = some g) : ∃ l : List Nat, l.Nodup ∧ l.length = regs ∧ ∀ g ∈ l, Act held g := by
  have key : ∀ k, k ≤ regs → ∃ l : List Nat, l.Nodup ∧ l.length = k ∧ ∀ g ∈ l, ∃ r, r < k ∧ held r = some g := by
    intro k
    induction k with
    | zero => exact fun _ => ⟨[], List.nodup_nil, rfl, fun g hg => by cases hg⟩
    | succ k ih =>
      intro hk
      obtain ⟨l, h1, h2, h3⟩ := ih (by omega)
      obtain ⟨g, hg⟩ := hf k (by omega)
      refine ⟨g :: l, List.nodup_cons.2 ⟨fun hin => ?_, h1⟩, by simp [h2], fun x hx => ?_⟩
      · obtain ⟨r, hr, e⟩ := h3 g hin
        have := h.inj r k g e hg
        omega
      · rcases List.mem_cons.1 hx with rfl | hx
        · exact ⟨k, by omega, hg⟩
        · obtain ⟨r, hr, e⟩ := h3 x hx
          exact ⟨r, by omega, e⟩
  obtain ⟨l, h1, h2, h3⟩ := key regs (Nat.le_refl _)
  exact ⟨l, h1, h2, fun g hg => by obtain ⟨r, _, e⟩ := h3 g hg; exact ⟨r, e⟩⟩
theorem few_act {regs : Nat} {held : Nat → Option Nat} (h : Regs regs held) (l : List Nat) (hd : l.Nodup) (hl : ∀ g ∈ l, Act held g) : l.length ≤ regs ∧ (∀ f, f < regs → held f = none → l.length + 1 ≤ regs) := by
  have key : ∀ l : List Nat, l.Nodup → (∀ g ∈ l, Act held g) → ∃ m : List Nat, m.Nodup ∧ m.length = l.length ∧ ∀ r ∈ m, ∃ g ∈ l, held r = some g := by
    intro l
    induction l with
    | nil => exact fun _ _ => ⟨[], List.nodup_nil, rfl, fun g hg => by cases hg⟩
    | cons a l ih =>
      intro hd hl
      obtain ⟨m, h1, h2, h3⟩ := ih (List.nodup_cons.1 hd).2 (fun g hg => hl g (List.mem_cons_of_mem _ hg))
      obtain ⟨r, hr⟩ := hl a (List.mem_cons_self ..)
      refine ⟨r :: m, List.nodup_cons.2 ⟨fun hin => ?_, h1⟩, by simp [h2], fun x hx => ?_⟩
      · obtain ⟨g, hg, e⟩ := h3 r hin
        rw [hr] at e; injection e with e; subst e
        exact (List.nodup_cons.1 hd).1 hg
      · rcases List.mem_cons.1 hx with rfl | hx
        · exact ⟨a, List.mem_cons_self .., hr⟩
        · obtain ⟨g, hg, e⟩ := h3 x hx
          exact ⟨g, List.mem_cons_of_mem _ hg, e⟩
  obtain ⟨m, h1, h2, h3⟩ := key l hd hl
  refine ⟨?_, fun f hf h0 => ?_⟩
  · rw [← h2]
    exact few regs m h1 (fun x hx => by obtain ⟨g, _, e⟩ := h3 x hx; exact h.lt x g e)
  · have : f ∉ m := fun hin => by
      obtain ⟨g, _, e⟩ := h3 f hin
      rw [h0] at e; cases e
    have := few regs (f :: m) (List.nodup_cons.2 ⟨this, h1⟩) (fun x hx => by
      rcases List.mem_cons.1 hx with rfl | hx
      · exact hf
      · obtain ⟨g, _, e⟩ := h3 x hx; exact h.lt x g e)
    simp at this
    omega
structure Dom (a b : St) : Prop where
  sub : ∀ g, Act a.held g → Act b.held g
  one : ∀ g h, Act b.held g → ¬ Act a.held g → Act b.held h → ¬ Act a.held h → g = h
  cnt : b.cnt ≤ a.cnt
theorem Dom.step {s : Sps} {k n : Nat} {a b a' b' : St} (h : Dom a b) (ra : Regs k a.held) (rb : Regs (k + 1) b.held) (hn : ¬ Act b.held n) (ha : Step s k n a a') (hb : Step s (k + 1) n b b') : Dom a' b' := by
  have hna : ¬ Act a.held n := fun x => hn (h.sub n x)
  have ea := ra.exp (s := s) (n := n)
  have eb := rb.exp (s := s) (n := n)
  -- behind what is over
  have sub : ∀ g, Act (exp s n a.held) g → Act (exp s n b.held) g := fun g hg => act_exp.2 ⟨h.sub g (act_exp.1 hg).1, (act_exp.1 hg).2⟩
  have one : ∀ g x, Act (exp s n b.held) g → ¬ Act (exp s n a.held) g → Act (exp s n b.held) x → ¬ Act (exp s n a.held) x → g = x := fun g x h1 h2 h3 h4 =>
    h.one g x (act_exp.1 h1).1 (fun q => h2 (act_exp.2 ⟨q, (act_exp.1 h1).2⟩)) (act_exp.1 h3).1 (fun q => h4 (act_exp.2 ⟨q, (act_exp.1 h3).2⟩))
  have hnb' : ¬ Act (exp s n b.held) n := fun x => hn (act_exp.1 x).1
  rcases ha.act ra hna with ⟨c1, A1, f, hf, hf0⟩ | ⟨c1, fullA, M, hM, maxM, A1⟩ <;> rcases hb.act rb hn with ⟨c2, B1, f2, hf2, hf20⟩ | ⟨c2, fullB, N, hN, maxN, B1⟩
  · refine ⟨fun g hg => (B1 g).2 (((A1 g).1 hg).imp (sub g) id), fun g x h1 h2 h3 h4 => ?_, by have := h.cnt; omega⟩
    have g1 := (B1 g).1 h1
    have x1 := (B1 x).1 h3
    have g2 : ¬ Act (exp s n a.held) g ∧ g ≠ n := ⟨fun q => h2 ((A1 g).2 (.inl q)), fun q => h2 ((A1 g).2 (.inr q))⟩
    have x2 : ¬ Act (exp s n a.held) x ∧ x ≠ n := ⟨fun q => h4 ((A1 x).2 (.inl q)), fun q => h4 ((A1 x).2 (.inr q))⟩
    exact one g x (g1.resolve_right g2.2) g2.1 (x1.resolve_right x2.2) x2.1
  · -- b is full, a is not: too many
    exfalso
    obtain ⟨l, l1, l2, l3⟩ := full_list eb fullB
    have hcl : ∀ l : List Nat, l.Nodup → (∀ g ∈ l, Act (exp s n b.held) g) → ∃ m : List Nat, m.Nodup ∧ l.length ≤ m.length + 1 ∧ ∀ g ∈ m, Act (exp s n a.held) g := by
      intro l hd hl
      by_cases hex : ∃ g ∈ l, ¬ Act (exp s n a.held) g
      · obtain ⟨g, hg, hng⟩ := hex
        refine ⟨l.erase g, hd.erase g, by rw [List.length_erase]; split <;> omega, fun x hx => ?_⟩
        have hx' := List.mem_of_mem_erase hx
        have hxg : x ≠ g := ((List.Nodup.mem_erase_iff hd).1 hx).1
        exact Classical.byContradiction fun hnx => hxg (one x g (hl x hx') hnx (hl g hg) hng)
      · exact ⟨l, hd, by omega, fun g hg => Classical.byContradiction fun hng => hex ⟨g, hg, hng⟩⟩
    obtain ⟨m, m1, m2, m3⟩ := hcl l l1 l3
    have := (few_act ea m m1 m3).2 f hf hf0
    omega
  · -- a is full, b is not
    have none : ∀ g, Act (exp s n b.held) g → Act (exp s n a.held) g := by
      intro g hg
      refine Classical.byContradiction fun hng => ?_
      obtain ⟨l, l1, l2, l3⟩ := full_list ea fullA
      have := (few_act eb (g :: l) (List.nodup_cons.2 ⟨fun hin => hng (l3 g hin), l1⟩) (fun x hx => by
        rcases List.mem_cons.1 hx with rfl | hx
        · exact hg
        · exact sub x (l3 x hx))).2 f2 hf2 hf20
      simp at this
      omega
    refine ⟨fun g hg => (B1 g).2 (((A1 g).1 hg).1.imp (sub g) id), fun g x h1 h2 h3 h4 => ?_, by have := h.cnt; omega⟩
    have key : ∀ g, Act b'.held g → ¬ Act a'.held g → g = M := fun g h1 h2 => Classical.byContradiction fun hne => h2 ((A1 g).2 ⟨((B1 g).1 h1).imp (none g) id, hne⟩)
    rw [key g h1 h2, key x h3 h4]
  · refine ⟨fun g hg => ?_, fun g x h1 h2 h3 h4 => ?_, by have := h.cnt; omega⟩
    · obtain ⟨g1, g2⟩ := (A1 g).1 hg
      refine (B1 g).2 ⟨g1.imp (sub g) id, fun e => ?_⟩
      subst e
      rcases maxM g g1 with q | q
      · exact g2 q
      · rcases maxN M (hM.imp (sub M) id) with q' | q'
        · exact g2 q'.symm
        · exact worse_asymm q q'
    · have key : ∀ g, Act b'.held g → ¬ Act a'.held g → (g = M ∧ M ≠ N) ∨ (Act (exp s n b.held) g ∧ ¬ Act (exp s n a.held) g ∧ g ≠ N) := by
        intro g h1 h2
        obtain ⟨g1, g2⟩ := (B1 g).1 h1
        by_cases e : g = M
        · exact .inl ⟨e, fun e' => g2 (e.trans e')⟩
        · right
          have hna' : ¬ (Act (exp s n a.held) g ∨ g = n) := fun q => h2 ((A1 g).2 ⟨q, e⟩)
          exact ⟨g1.resolve_right (fun q => hna' (.inr q)), fun q => hna' (.inl q), g2⟩
      -- where the two maxima differ, the greater one's is the one that b has alone
      have alone : M ≠ N → Act (exp s n b.held) N ∧ ¬ Act (exp s n a.held) N := by
        intro hne
        have hNa : ¬ (Act (exp s n a.held) N ∨ N = n) := by
          intro q
          rcases maxM N q with e | w1
          · exact hne e.symm
          · rcases maxN M (hM.imp (sub M) id) with e | w2
            · exact hne e
            · exact worse_asymm w1 w2
        exact ⟨hN.resolve_right (fun q => hNa (.inr q)), fun q => hNa (.inl q)⟩
      rcases key g h1 h2 with ⟨e1, n1⟩ | ⟨p1, p2, p3⟩ <;> rcases key x h3 h4 with ⟨e2, n2⟩ | ⟨q1, q2, q3⟩
      · rw [e1, e2]
      · obtain ⟨u1, u2⟩ := alone n1
        exact absurd (one x N q1 q2 u1 u2) q3
      · obtain ⟨u1, u2⟩ := alone n2
        exact absurd (one g N p1 p2 u1 u2) p3
      · exact one g x p1 p2 q1 q2
end AlScan
namespace AlScan
theorem Steps.split {s : Sps} {regs n : Nat} {c : St} : ∀ {l : List Nat} {a : St}, Steps s regs (l ++ [n]) a c → ∃ b, Steps s regs l a b ∧ Step s regs n b c
  | [], a, h => by
    cases h with
    | cons h t => cases t; exact ⟨_, .nil, h⟩
  | m :: l, a, h => by
    cases h with
    | cons h t =>
      obtain ⟨b, h1, h2⟩ := t.split
      exact ⟨b, .cons h h1, h2⟩
theorem At.of {s : Sps} {regs N : Nat} {E : Nat → Nat} (o : Ordr s N E) (hF : ∀ g, g < N → s.F g ≤ s.T g) (h0 : ∀ g, g < N → 0 ≤ s.F g) : ∀ k, k ≤ N → ∀ a, Steps s regs ((List.range k).map E) st0 a → At s regs N k E a
  | 0, _, a, h => by cases h; exact At.start s regs N E h0 o
  | k + 1, hk, a, h => by
    rw [List.range_succ, List.map_append] at h
    obtain ⟨b, h1, h2⟩ := Steps.split h
    exact (At.of o hF h0 k (by omega) b h1).step o hF (by omega) h2
def cs (f : Nat → Int) : Nat → Nat
  | 0 => 0
  | n + 1 => cs f n + (if 0 ≤ f n then 1 else 0)
theorem cs_upd_out (f : Nat → Int) (i : Nat) (v : Int) : ∀ n, n ≤ i → cs (upd f i v) n = cs f n
  | 0, _ => rfl
  | n + 1, h => by simp only [cs]; rw [cs_upd_out f i v n (by omega), upd_ne _ _ (by omega)]
theorem cs_upd {f : Nat → Int} {i : Nat} {v : Int} (h : f i < 0) (hv : 0 ≤ v) : ∀ n, i < n → cs (upd f i v) n = cs f n + 1
  | n + 1, hn => by
    simp only [cs]
    by_cases e : i = n
    · subst e
      rw [cs_upd_out f i v i (Nat.le_refl _), upd_self, if_pos hv, if_neg (by omega)]
    · rw [cs_upd h hv n (by omega), upd_ne _ _ (by omega)]; omega
theorem upd_id {α : Type} (f : Nat → α) {i : Nat} {x : α} (h : f i = x) : upd f i x = f := by
  funext j
  unfold upd
  split
  · rename_i e; rw [e, h]
  · rfl
theorem cs_neg (n : Nat) : cs (fun _ => -1) n = 0 := by
  induction n with
  | zero => rfl
  | succ n ih => simp [cs, ih]
theorem cs_all {s : Sps} {regs N : Nat} {E : Nat → Nat} (o : Ordr s N E) (hF : ∀ g, g < N → s.F g ≤ s.T g) (h0 : ∀ g, g < N → 0 ≤ s.F g) : ∀ k, k ≤ N → ∀ a, Steps s regs ((List.range k).map E) st0 a → cs a.spill N = a.cnt
  | 0, _, a, h => by cases h; exact cs_neg N
  | k + 1, hk, a, h => by
    rw [List.range_succ, List.map_append] at h
    obtain ⟨b, h1, h2⟩ := Steps.split h
    have A := At.of o hF h0 k (by omega) b h1
    have ih := cs_all o hF h0 k (by omega) b h1
    obtain ⟨d, now, hi, hd, _⟩ := A.inv
    obtain ⟨u1, u2⟩ := A.un (E k) (fun j hj e => by have := o.inj j k (by omega) (by omega) e; omega)
    have hkN := o.lt k (by omega)
    cases h2 with
    | free f hf h0 hm => dsimp only; rw [upd_id _ u2]; exact ih
    | self h => dsimp only; rw [cs_upd (by omega) (by omega) N hkN, ih]
    | evict r g hr hg hw hm =>
      dsimp only
      obtain ⟨q1, q2, q3, q4⟩ := hi.held r g (exp_some hg).1
      obtain ⟨j, hj, e⟩ := (hd g).1 q2
      rw [upd_id _ u2, cs_upd (by omega) (by omega) N (by rw [← e]; exact o.lt j (by omega)), ih]
theorem At.each {s : Sps} {regs N : Nat} {E : Nat → Nat} {a : St} (o : Ordr s N E) (h : At s regs N N E a) : ∀ g, g < N → (a.reg g = -1 ∧ 0 ≤ a.spill g ∧ a.spill g < (a.cnt : Int)) ∨ (∃ r : Nat, r < regs ∧ a.reg g = (r : Int) ∧ a.spill g = -1) := fun g hg => by
  obtain ⟨d, now, hi, hd, _⟩ := h.inv
  rcases hi.each g ((hd g).2 (o.on g hg)) with h | ⟨r, h1, h2, h3, _⟩
  · exact .inl h
  · exact .inr ⟨r, h1, h2, h3⟩
end AlScan
namespace AlScan
def cv (s : Sps) (x : Int) : Nat → Nat
  | 0 => 0
  | i + 1 => cv s x i + (if s.F i ≤ x ∧ x ≤ s.T i then 1 else 0)
theorem cv_le (s : Sps) (x : Int) : ∀ n, cv s x n ≤ n
  | 0 => Nat.le_refl _
  | n + 1 => by have := cv_le s x n; simp only [cv]; split <;> omega
theorem few_cv {s : Sps} {x : Int} : ∀ (n : Nat) (l : List Nat), l.Nodup → (∀ g ∈ l, g < n ∧ s.F g ≤ x ∧ x ≤ s.T g) → l.length ≤ cv s x n
  | 0, l, _, h => by
    cases l with
    | nil => exact Nat.le_refl _
    | cons g l => have := (h g (List.mem_cons_self ..)).1; omega
  | n + 1, l, hd, h => by
    by_cases hn : n ∈ l
    · have h1 := few_cv n (l.erase n) (hd.erase n) (fun g hg => by
        have h2 := h g (List.mem_of_mem_erase hg)
        have h3 := ((List.Nodup.mem_erase_iff hd).1 hg).1
        exact ⟨by omega, h2.2⟩)
      rw [List.length_erase, if_pos hn] at h1
      simp only [cv]
      rw [if_pos (h n hn).2]
      omega
    · have h1 := few_cv n l hd (fun g hg => by
        have h2 := h g hg
        exact ⟨by have : g ≠ n := fun e => hn (e ▸ hg)
                  omega, h2.2⟩)
      simp only [cv]; omega
theorem cv_regs {s : Sps} {x : Int} {R n : Nat} {reg : Nat → Int} (hr : ∀ i, i < n → 0 ≤ reg i ∧ reg i < (R : Int)) (hap : ∀ i j, i < n → j < n → i ≠ j → 0 ≤ reg i → reg i = reg j → ¬ (s.F i ≤ s.T j ∧ s.F j ≤ s.T i)) : cv s x n ≤ R := by
  have key : ∀ m, m ≤ n → ∃ l : List Nat, l.Nodup ∧ l.length = cv s x m ∧ ∀ g ∈ l, g < m ∧ s.F g ≤ x ∧ x ≤ s.T g := by
    intro m
    induction m with
    | zero => intro _; exact ⟨[], List.nodup_nil, rfl, fun g hg => by cases hg⟩
    | succ m ih =>
      intro hm
      obtain ⟨l, h1, h2, h3⟩ := ih (by omega)
      by_cases hc : s.F m ≤ x ∧ x ≤ s.T m
      · refine ⟨m :: l, List.nodup_cons.2 ⟨fun hin => by have := (h3 m hin).1; omega, h1⟩, by simp only [cv, List.length_cons, if_pos hc, h2], fun g hg => ?_⟩
        rcases List.mem_cons.1 hg with e | hg
        · rw [e]; exact ⟨by omega, hc⟩
        · have := h3 g hg; exact ⟨by omega, this.2⟩
      · exact ⟨l, h1, by simp only [cv, if_neg hc, h2]; rfl, fun g hg => by have := h3 g hg; exact ⟨by omega, this.2⟩⟩
  obtain ⟨l, h1, h2, h3⟩ := key n (Nat.le_refl _)
  rw [← h2, ← List.length_map (f := fun i => (reg i).toNat)]
  refine few R _ ?_ (fun y hy => ?_)
  · rw [List.Nodup, List.pairwise_map]
    refine List.Pairwise.imp_of_mem (fun {a b} ha hb hne => ?_) h1
    intro e
    have a1 := h3 a ha
    have b1 := h3 b hb
    have ra := hr a a1.1
    have rb := hr b b1.1
    exact hap a b a1.1 b1.1 hne ra.1 (by omega) ⟨by omega, by omega⟩
  · obtain ⟨i, hi, e⟩ := List.mem_map.1 hy
    have := hr i (h3 i hi).1
    omega
theorem cv_spill {s : Sps} {regs N : Nat} {E : Nat → Nat} (o : Ordr s N E) (hF : ∀ g, g < N → s.F g ≤ s.T g) (h0 : ∀ g, g < N → 0 ≤ s.F g) : ∀ k, k ≤ N → ∀ a, Steps s regs ((List.range k).map E) st0 a → 0 < a.cnt → ∃ n, n < N ∧ regs + 1 ≤ cv s (s.F n) N
  | 0, _, a, h, hc => by cases h; exact absurd hc (by decide)
  | k + 1, hk, a, h, hc => by
    rw [List.range_succ, List.map_append] at h
    obtain ⟨b, h1, h2⟩ := Steps.split h
    by_cases hb : 0 < b.cnt
    · exact cv_spill o hF h0 k (by omega) b h1 hb
    · have A := At.of o hF h0 k (by omega) b h1
      obtain ⟨d, now, hi, hd, hnow⟩ := A.inv
      have hkN := o.lt k (by omega)
      have hnk := hnow k (Nat.le_refl _) (by omega)
      have hnd : E k ∉ d := fun hin => by
        obtain ⟨j, hj, e⟩ := (hd _).1 hin
        have := o.inj j k (by omega) (by omega) e
        omega
      have full : ∀ r, r < regs → ∃ g, exp s (E k) b.held r = some g := by
        cases h2 with
        | free f hf hf0 hm => exact absurd hc hb
        | self hs => exact fun r hr => by obtain ⟨g, e, _⟩ := hs r hr; exact ⟨g, e⟩
        | evict r g hr hg hw hm => exact fun r' hr' => by obtain ⟨g, e, _⟩ := hm r' hr'; exact ⟨g, e⟩
      obtain ⟨l, l1, l2, l3⟩ := full_list (hi.regs.exp (s := s) (n := E k)) full
      refine ⟨E k, hkN, ?_⟩
      have hl : ∀ g ∈ l, g ∈ d ∧ s.F (E k) ≤ s.T g := fun g hg => by
        obtain ⟨r, hr⟩ := l3 g hg
        obtain ⟨q1, q2⟩ := exp_some hr
        exact ⟨(hi.held r g q1).2.1, q2⟩
      have := few_cv (s := s) (x := s.F (E k)) N (E k :: l) (List.nodup_cons.2 ⟨fun hin => hnd (hl _ hin).1, l1⟩) (fun g hg => by
        rcases List.mem_cons.1 hg with e | hg
        · rw [e]; exact ⟨hkN, Int.le_refl _, hF _ hkN⟩
        · obtain ⟨q1, q2⟩ := hl g hg
          obtain ⟨j, hj, e⟩ := (hd g).1 q1
          exact ⟨by rw [← e]; exact o.lt j (by omega), Int.le_trans (hi.begun g q1) hnk, q2⟩)
      rw [List.length_cons, l2] at this
      exact this
def mx (s : Sps) (n : Nat) : Nat → Nat
  | 0 => 0
  | x + 1 => if mx s n x < cv s (x : Int) n then cv s (x : Int) n else mx s n x
theorem mx_le (s : Sps) (n : Nat) : ∀ x, mx s n x ≤ n
  | 0 => Nat.zero_le _
  | x + 1 => by simp only [mx]; have := mx_le s n x; have := cv_le s (x : Int) n; split <;> omega
theorem mx_ge (s : Sps) (n : Nat) : ∀ (x y : Nat), y < x → cv s (y : Int) n ≤ mx s n x
  | x + 1, y, h => by
    simp only [mx]
    by_cases e : y = x
    · subst e; split <;> omega
    · have := mx_ge s n x y (by omega); split <;> omega
theorem mx_up {s : Sps} {n R : Nat} (h : ∀ x : Nat, cv s (x : Int) n ≤ R) : ∀ x, mx s n x ≤ R
  | 0 => Nat.zero_le _
  | x + 1 => by simp only [mx]; have := mx_up h x; have := h x; split <;> omega
end AlScan
namespace AlSo
open AlScan
theorem rot_up_zero (D : Nat → Nat) (a : Nat) : rot D a (a + 1) (a + 1) = D := by
  funext i; unfold rot
  by_cases h : a ≤ i ∧ i < a + 1
  · rw [if_pos h, if_neg (by omega)]; congr 1; omega
  · rw [if_neg h]
theorem rot_up_succ (D : Nat → Nat) {a k : Nat} (h : a ≤ k) : upd (upd (rot D a (a + 1) (k + 1)) k (rot D a (a + 1) (k + 1) (k + 1))) (k + 1) (rot D a (a + 1) (k + 1) k) = rot D a (a + 1) (k + 2) := by
  have v1 : rot D a (a + 1) (k + 1) (k + 1) = D (k + 1) := if_neg (by omega)
  have v2 : rot D a (a + 1) (k + 1) k = D a := by
    unfold rot; rw [if_pos (by omega), if_neg (by omega)]; congr 1; omega
  rw [v1, v2]
  funext i
  unfold upd rot
  by_cases e1 : i = k + 1
  · rw [if_pos e1, if_pos (by omega), if_neg (by omega)]; congr 1; omega
  · rw [if_neg e1]
    by_cases e2 : i = k
    · rw [if_pos e2, if_pos (by omega), if_pos (by omega)]; congr 1; omega
    · rw [if_neg e2]
      by_cases e3 : a ≤ i ∧ i < k + 1
      · rw [if_pos e3, if_pos (by omega), if_pos (by omega), if_pos (by omega)]
      · rw [if_neg e3, if_neg (by omega)]
theorem rot_dn_zero (D : Nat → Nat) (m : Nat) : rot D m m (m + 1) = D := by
  funext i; unfold rot
  by_cases h : m ≤ i ∧ i < m + 1
  · rw [if_pos h, if_pos (by omega)]; congr 1; omega
  · rw [if_neg h]
theorem rot_dn_succ (D : Nat → Nat) {m k : Nat} (h : k < m) : upd (upd (rot D (k + 1) m (m + 1)) (k + 1) (rot D (k + 1) m (m + 1) k)) k (rot D (k + 1) m (m + 1) (k + 1)) = rot D k m (m + 1) := by
  have v1 : rot D (k + 1) m (m + 1) k = D k := if_neg (by omega)
  have v2 : rot D (k + 1) m (m + 1) (k + 1) = D m := by
    unfold rot; rw [if_pos (by omega), if_pos (by omega)]; congr 1; omega
  rw [v1, v2]
  funext i
  unfold upd rot
  by_cases e2 : i = k
  · rw [if_pos e2, if_pos (by omega), if_pos (by omega)]; congr 1; omega
  · rw [if_neg e2]
    by_cases e1 : i = k + 1
    · rw [if_pos e1, if_pos (by omega), if_neg (by omega)]; congr 1; omega
    · rw [if_neg e1]
      by_cases e3 : k + 1 ≤ i ∧ i < m + 1
      · rw [if_pos e3, if_neg (by omega), if_pos (by omega), if_neg (by omega)]
      · rw [if_neg e3, if_neg (by omega)]
structure Mrg (F : Nat → Int) (D : Nat → Nat) (a m b : Nat) : Prop where
  L : SortedOn (ord F) D a m
  R : SortedOn (ord F) D m b
  lt : ∀ i j, a ≤ i → i < m → m ≤ j → j < b → D i < D j
theorem sorted_le {F : Nat → Int} {D : Nat → Nat} {a b : Nat} (h : SortedOn (ord F) D a b) {i j : Nat} (h1 : a ≤ i) (h2 : i ≤ j) (h3 : j < b) : F (D i) ≤ F (D j) := by
  rcases Nat.lt_or_eq_of_le h2 with h' | h'
  · have := h i j h1 h' h3; unfold ord at this; omega
  · rw [h']; exact Int.le_refl _
theorem Mrg.left {F : Nat → Int} {D : Nat → Nat} {a b i : Nat} (h : Mrg F D a (a + 1) b) (hb : a + 1 ≤ b) (h1 : a + 1 ≤ i) (h2 : i ≤ b) (hlo : ∀ c, a + 1 ≤ c → c < i → F (D c) < F (D a)) (hhi : ∀ c, i ≤ c → c < b → F (D a) ≤ F (D c)) :
    Same D (rot D a (a + 1) i) a b ∧ SortedOn (ord F) (rot D a (a + 1) i) a b := by
  refine ⟨(rot_same D (by omega) h1).wide (Nat.le_refl _) h2, fun p q hp hpq hq => ?_⟩
  have e1 : ∀ c, a ≤ c → c + 1 < i → rot D a (a + 1) i c = D (c + 1) := fun c h1 h2 => by
    unfold rot; rw [if_pos (by omega), if_pos (by omega)]; congr 1; omega
  have e2 : rot D a (a + 1) i (i - 1) = D a := by
    unfold rot; rw [if_pos (by omega), if_neg (by omega)]; congr 1; omega
  have e3 : ∀ c, i ≤ c → rot D a (a + 1) i c = D c := fun c h => if_neg (by omega)
  by_cases c1 : p + 1 < i
  · rw [e1 p hp c1]
    by_cases c2 : q + 1 < i
    · rw [e1 q (by omega) c2]; exact h.R _ _ (by omega) (by omega) (by omega)
    · by_cases c3 : q + 1 = i
      · rw [show q = i - 1 by omega, e2]; exact .inl (hlo _ (by omega) c1)
      · rw [e3 q (by omega)]; exact h.R _ _ (by omega) (by omega) (by omega)
  · by_cases c4 : p + 1 = i
    · rw [show p = i - 1 by omega, e2, e3 q (by omega)]
      have := hhi q (by omega) hq
      have := h.lt a q (by omega) (by omega) (by omega) hq
      unfold ord; omega
    · rw [e3 p (by omega), e3 q (by omega)]; exact h.R _ _ (by omega) hpq hq
theorem Mrg.right {F : Nat → Int} {D : Nat → Nat} {a m i : Nat} (h : Mrg F D a m (m + 1)) (h1 : a ≤ i) (h2 : i ≤ m) (hlo : ∀ c, a ≤ c → c < i → F (D c) ≤ F (D m)) (hhi : ∀ c, i ≤ c → c < m → F (D m) < F (D c)) :
    Same D (rot D i m (m + 1)) a (m + 1) ∧ SortedOn (ord F) (rot D i m (m + 1)) a (m + 1) := by
  refine ⟨(rot_same D h2 (by omega)).wide h1 (Nat.le_refl _), fun p q hp hpq hq => ?_⟩
  have e1 : ∀ c, c < i → rot D i m (m + 1) c = D c := fun c h1 => if_neg (by omega)
  have e2 : rot D i m (m + 1) i = D m := by
    unfold rot; rw [if_pos (by omega), if_pos (by omega)]; congr 1; omega
  have e3 : ∀ c, i < c → c ≤ m → rot D i m (m + 1) c = D (c - 1) := fun c h1 h2 => by
    unfold rot; rw [if_pos (by omega), if_neg (by omega)]; congr 1; omega
  by_cases c1 : p < i
  · rw [e1 p c1]
    by_cases c2 : q < i
    · rw [e1 q c2]; exact h.L _ _ hp hpq (by omega)
    · by_cases c3 : q = i
      · rw [c3, e2]
        have := hlo p hp c1
        have := h.lt p m hp (by omega) (by omega) (by omega)
        unfold ord; omega
      · rw [e3 q (by omega) (by omega)]; exact h.L _ _ hp (by omega) (by omega)
  · by_cases c4 : p = i
    · rw [c4, e2, e3 q (by omega) (by omega)]
      exact .inl (hhi _ (by omega) (by omega))
    · rw [e3 p (by omega) (by omega), e3 q (by omega) (by omega)]; exact h.L _ _ (by omega) (by omega) (by omega)
end AlSo
namespace AlSo
theorem Same.lt {D E : Nat → Nat} {a b n N : Nat} (h : Same D E a b) (hb : b ≤ n) (hD : ∀ i, i < n → D i < N) : ∀ i, i < n → E i < N := fun i hi => by
  by_cases hk : a ≤ i ∧ i < b
  · obtain ⟨k, q1, q2, e⟩ := h.fro i hk.1 hk.2
    rw [e]; exact hD k (by omega)
  · rw [h.out i (by omega)]; exact hD i hi
theorem rot_left0 (D : Nat → Nat) (m e : Nat) : rot D m m e = D := by
  funext i; unfold rot
  by_cases h : m ≤ i ∧ i < e
  · rw [if_pos h, if_pos (by omega)]; congr 1; omega
  · rw [if_neg h]
theorem rot_right0 (D : Nat → Nat) (s m : Nat) : rot D s m m = D := by
  funext i; unfold rot
  by_cases h : s ≤ i ∧ i < m
  · rw [if_pos h, if_neg (by omega)]; congr 1; omega
  · rw [if_neg h]
structure Win (a m b mid s0 r0 : Nat) : Prop where
  am : a + 2 ≤ m
  mb : m + 2 ≤ b
  mid1 : 2 * mid ≤ a + b
  mid2 : a + b ≤ 2 * mid + 1
  s0a : a ≤ s0
  s0r : s0 ≤ r0
  r0m : r0 ≤ m
  r0d : r0 ≤ mid
  lo : s0 = a ∨ s0 + b = mid + m
  hi : r0 = m ∨ r0 = mid
  up : mid + m ≤ s0 + b
  dn : m + r0 ≤ mid + m
theorem Mrg.mono {F : Nat → Int} {D : Nat → Nat} {a m b mid s0 r0 : Nat} (h : Mrg F D a m b) (w : Win a m b mid s0 r0) {c c' : Nat} (h1 : s0 ≤ c) (h2 : c ≤ c') (h3 : c' < r0) : F (D c) ≤ F (D c') ∧ F (D (mid + m - 1 - c')) ≤ F (D (mid + m - 1 - c)) := by
  have := w.s0a; have := w.r0m; have := w.up; have := w.dn; have := w.r0d; have := w.mb; have := w.am
  exact ⟨sorted_le h.L (by omega) h2 (by omega), sorted_le h.R (by omega) (by omega) (by omega)⟩
structure Mids (F : Nat → Int) (E : Nat → Nat) (a b mid start e : Nat) : Prop where
  B : a < start → start < mid → Mrg F E a start mid
  B0 : ¬ (a < start ∧ start < mid) → SortedOn (ord F) E a mid
  C : mid < e → e < b → Mrg F E mid e b
  C0 : ¬ (mid < e ∧ e < b) → SortedOn (ord F) E mid b
  X : ∀ i j, a ≤ i → i < mid → mid ≤ j → j < b → ord F (E i) (E j)
theorem Mrg.mids {F : Nat → Int} {D : Nat → Nat} {a m b mid s0 r0 start : Nat} (h : Mrg F D a m b) (w : Win a m b mid s0 r0) (h1 : s0 ≤ start) (h2 : start ≤ r0)
    (hlo : ∀ c, s0 ≤ c → c < start → F (D c) ≤ F (D (mid + m - 1 - c))) (hhi : ∀ c, start ≤ c → c < r0 → F (D (mid + m - 1 - c)) < F (D c)) :
    Mids F (rot D start m (mid + m - start)) a b mid start (mid + m - start) ∧ Same D (rot D start m (mid + m - start)) a b := by
  have w1 := w.s0a; have w2 := w.r0m; have w3 := w.up; have w4 := w.dn; have w5 := w.r0d; have w6 := w.mb; have w7 := w.am; have w8 := w.lo; have w9 := w.hi; have w10 := w.mid1; have w11 := w.mid2
  have hc := sym_core (ord_ok F) (D := D) (a := a) (m := m) (b := b) (mid := mid) (start := start) (by omega) (by omega) h.L h.R (by omega) (by omega) (by omega) (by omega) (by omega) (by omega)
    (fun q1 q2 => by
      have q3 := hlo (start - 1) (by omega) (by omega)
      rw [show mid + m - 1 - (start - 1) = mid + m - start by omega] at q3
      have q4 := h.lt (start - 1) (mid + m - start) (by omega) (by omega) (by omega) (by omega)
      unfold ord; omega)
    (fun q1 q2 => by
      have q3 := hhi start (by omega) (by omega)
      rw [show mid + m - 1 - start = mid + m - start - 1 by omega] at q3
      exact .inl q3)
  obtain ⟨c1, c2, c3, c4, c5⟩ := hc
  have e1 : ∀ i, i < start → rot D start m (mid + m - start) i = D i := fun i hi => if_neg (by omega)
  have e2 : ∀ i, start ≤ i → i < mid → rot D start m (mid + m - start) i = D (i + (m - start)) := fun i h1 h2 => by
    unfold rot; rw [if_pos (by omega), if_pos (by omega)]
  have e3 : ∀ i, mid ≤ i → i < mid + m - start → rot D start m (mid + m - start) i = D (i - (mid + m - start - m)) := fun i h1 h2 => by
    unfold rot; rw [if_pos (by omega), if_neg (by omega)]
  have e4 : ∀ i, mid + m - start ≤ i → rot D start m (mid + m - start) i = D i := fun i hi => if_neg (by omega)
  refine ⟨⟨fun q1 q2 => ⟨c1, c2, fun i j p q r s => ?_⟩, fun q => ?_, fun q1 q2 => ⟨c3, c4, fun i j p q r s => ?_⟩, fun q => ?_, c5⟩, (rot_same D (by omega) (by omega)).wide (by omega) (by omega)⟩
  · rw [e1 i q, e2 j r s]; exact h.lt _ _ p (by omega) (by omega) (by omega)
  · by_cases q1 : a < start
    · intro i j p q r; exact c1 i j p q (by omega)
    · intro i j p q r; exact c2 i j (by omega) q r
  · rw [e3 i p q, e4 j r]; exact h.lt _ _ (by omega) (by omega) (by omega) s
  · by_cases q1 : mid < mid + m - start
    · intro i j p q r; exact c3 i j p q (by omega)
    · intro i j p q r; exact c4 i j (by omega) q r
theorem Mids.c {F : Nat → Int} {E E2 : Nat → Nat} {a b mid start e : Nat} (h : Mids F E a b mid start e) (h2 : Same E E2 a mid) : (mid < e → e < b → Mrg F E2 mid e b) ∧ (¬ (mid < e ∧ e < b) → SortedOn (ord F) E2 mid b) := by
  have k : ∀ i, mid ≤ i → E2 i = E i := fun i hi => h2.out i (by omega)
  refine ⟨fun q1 q2 => ⟨fun i j p q r => ?_, fun i j p q r => ?_, fun i j p q r s => ?_⟩, fun q i j p q' r => ?_⟩
  · rw [k i p, k j (by omega)]; exact (h.C q1 q2).L i j p q r
  · rw [k i (by omega), k j (by omega)]; exact (h.C q1 q2).R i j p q r
  · rw [k i p, k j (by omega)]; exact (h.C q1 q2).lt i j p q r s
  · rw [k i p, k j (by omega)]; exact h.C0 q i j p q' r
theorem Mids.fin {F : Nat → Int} {D E E2 E3 : Nat → Nat} {a b mid start e : Nat} (h : Mids F E a b mid start e) (hD : Same D E a b) (ha : a ≤ mid) (hb : mid ≤ b) (h2 : Same E E2 a mid) (s2 : SortedOn (ord F) E2 a mid) (h3 : Same E2 E3 mid b) (s3 : SortedOn (ord F) E3 mid b) :
    Same D E3 a b ∧ SortedOn (ord F) E3 a b := by
  refine ⟨(hD.trans (h2.wide (Nat.le_refl _) hb)).trans (h3.wide ha (Nat.le_refl _)), ?_⟩
  refine sorted_join (c := mid) (fun i j p q r => ?_) s3 (below_same (below_same h.X (.inl h2) ha hb) (.inr h3) ha hb)
  rw [h3.out i (by omega), h3.out j (by omega)]; exact s2 i j p q r
end AlSo
namespace AlSo
structure Runs (F : Nat → Int) (E : Nat → Nat) (n z : Nat) : Prop where
  s : ∀ k i j, k * z ≤ i → i < j → j < (k + 1) * z → j < n → ord F (E i) (E j)
  x : ∀ k i j, i < k * z → k * z ≤ j → j < n → E i < E j
structure Ph (F : Nat → Int) (E : Nat → Nat) (n z y q : Nat) : Prop where
  lo : ∀ k i j, k < q → k * y ≤ i → i < j → j < (k + 1) * y → j < n → ord F (E i) (E j)
  hi : ∀ k i j, q * y ≤ k * z → k * z ≤ i → i < j → j < (k + 1) * z → j < n → ord F (E i) (E j)
  x : ∀ k i j, k ≤ q → i < k * y → k * y ≤ j → j < n → E i < E j
  xh : ∀ k i j, q * y ≤ k * z → i < k * z → k * z ≤ j → j < n → E i < E j
theorem Ph.start {F : Nat → Int} {E : Nat → Nat} {n z y : Nat} (h : Runs F E n z) : Ph F E n z y 0 :=
  ⟨fun k i j hk => by omega, fun k i j _ => h.s k i j, fun k i j hk h1 => by
    obtain rfl : k = 0 := by omega
    simp at h1, fun k i j _ => h.x k i j⟩
theorem Ph.step {F : Nat → Int} {E E2 : Nat → Nat} {n z y q c : Nat} (hy : y = c * z) (hn : q * y + y ≤ n) (h : Ph F E n z y q) (hs : Same E E2 (q * y) (q * y + y)) (ho : SortedOn (ord F) E2 (q * y) (q * y + y)) : Ph F E2 n z y (q + 1) := by
  have eq1 : (q + 1) * y = q * y + y := Nat.succ_mul q y
  have eq2 : ((q + 1) * c) * z = q * y + y := by rw [Nat.mul_assoc, ← hy, eq1]
  refine ⟨fun k i j hk h1 h2 h3 h4 => ?_, fun k i j hk h1 h2 h3 h4 => ?_, fun k i j hk h1 h2 h3 => ?_, fun k i j hk h1 h2 h3 => ?_⟩
  · by_cases hkq : k < q
    · have : (k + 1) * y ≤ q * y := Nat.mul_le_mul_right y (by omega)
      rw [hs.out i (by omega), hs.out j (by omega)]; exact h.lo k i j hkq h1 h2 h3 h4
    · obtain rfl : k = q := by omega
      exact ho i j h1 h2 (by omega)
  · rw [eq1] at hk
    rw [hs.out i (by omega), hs.out j (by omega)]; exact h.hi k i j (by omega) h1 h2 h3 h4
  · by_cases hkq : k ≤ q
    · have hky : k * y ≤ q * y := Nat.mul_le_mul_right y hkq
      rw [hs.out i (by omega)]
      by_cases hj : q * y ≤ j ∧ j < q * y + y
      · obtain ⟨j', q1, q2, e⟩ := hs.fro j hj.1 hj.2
        rw [e]; exact h.x k i j' hkq h1 (by omega) (by omega)
      · rw [hs.out j (by omega)]; exact h.x k i j hkq h1 h2 h3
    · obtain rfl : k = q + 1 := by omega
      rw [eq1] at h1 h2
      rw [hs.out j (by omega)]
      by_cases hi : q * y ≤ i ∧ i < q * y + y
      · obtain ⟨i', q1, q2, e⟩ := hs.fro i hi.1 hi.2
        rw [e]; exact h.xh ((q + 1) * c) i' j (by omega) (by omega) (by omega) h3
      · rw [hs.out i (by omega)]; exact h.xh ((q + 1) * c) i j (by omega) (by omega) (by omega) h3
  · rw [eq1] at hk
    rw [hs.out j (by omega)]
    by_cases hi : q * y ≤ i ∧ i < q * y + y
    · obtain ⟨i', q1, q2, e⟩ := hs.fro i hi.1 hi.2
      rw [e]; exact h.xh k i' j (by omega) (by omega) h2 h3
    · rw [hs.out i (by omega)]; exact h.xh k i j (by omega) h1 h2 h3
theorem Ph.last {F : Nat → Int} {E E2 : Nat → Nat} {n z y q : Nat} (h0 : q * y ≤ n) (hn : n < q * y + y) (h : Ph F E n z y q) (hs : Same E E2 (q * y) n) (ho : SortedOn (ord F) E2 (q * y) n) : Runs F E2 n y := by
  have eq1 : (q + 1) * y = q * y + y := Nat.succ_mul q y
  refine ⟨fun k i j h1 h2 h3 h4 => ?_, fun k i j h1 h2 h3 => ?_⟩
  · by_cases hkq : k < q
    · have : (k + 1) * y ≤ q * y := Nat.mul_le_mul_right y (by omega)
      rw [hs.out i (by omega), hs.out j (by omega)]; exact h.lo k i j hkq h1 h2 h3 h4
    · have : q * y ≤ k * y := Nat.mul_le_mul_right y (by omega)
      exact ho i j (by omega) h2 h4
  · by_cases hkq : k ≤ q
    · have hky : k * y ≤ q * y := Nat.mul_le_mul_right y hkq
      rw [hs.out i (by omega)]
      by_cases hj : q * y ≤ j
      · obtain ⟨j', q1, q2, e⟩ := hs.fro j hj h3
        rw [e]; exact h.x k i j' hkq h1 (by omega) q2
      · rw [hs.out j (by omega)]; exact h.x k i j hkq h1 h2 h3
    · have : (q + 1) * y ≤ k * y := Nat.mul_le_mul_right y (by omega)
      omega
theorem Ph.mrg {F : Nat → Int} {E : Nat → Nat} {n z q b : Nat} (h : Ph F E n z (2 * z) q) (h0 : q * (2 * z) + z ≤ b) (h1 : b ≤ q * (2 * z) + 2 * z) (hb : b ≤ n) : Mrg F E (q * (2 * z)) (q * (2 * z) + z) b := by
  have e1 : (2 * q) * z = q * (2 * z) := by rw [Nat.mul_comm 2 q, Nat.mul_assoc]
  have e2 : (2 * q + 1) * z = q * (2 * z) + z := by rw [Nat.succ_mul, e1]
  have e3 : (2 * q + 1 + 1) * z = q * (2 * z) + 2 * z := by rw [Nat.succ_mul, e2]; omega
  refine ⟨fun i j p q' r => ?_, fun i j p q' r => ?_, fun i j p q' r t => ?_⟩
  · exact h.hi (2 * q) i j (by omega) (by omega) q' (by omega) (by omega)
  · exact h.hi (2 * q + 1) i j (by omega) (by omega) q' (by omega) (by omega)
  · exact h.xh (2 * q + 1) i j (by omega) (by omega) (by omega) (by omega)
theorem Ph.short {F : Nat → Int} {E : Nat → Nat} {n z q : Nat} (h : Ph F E n z (2 * z) q) (h1 : n ≤ q * (2 * z) + z) : SortedOn (ord F) E (q * (2 * z)) n := by
  have e1 : (2 * q) * z = q * (2 * z) := by rw [Nat.mul_comm 2 q, Nat.mul_assoc]
  have e2 : (2 * q + 1) * z = q * (2 * z) + z := by rw [Nat.succ_mul, e1]
  exact fun i j p q' r => h.hi (2 * q) i j (by omega) (by omega) q' (by omega) r
theorem Ph.up {F : Nat → Int} {E : Nat → Nat} {n y q : Nat} (h : Ph F E n 1 y q) : ∀ i j, q * y ≤ i → i < j → j < n → E i < E j :=
  fun i j p q' r => h.xh j i j (by omega) (by omega) (by omega) r
theorem Runs.one {F : Nat → Int} {D : Nat → Nat} {n : Nat} (h : ∀ i j, i < j → j < n → D i < D j) : Runs F D n 1 :=
  ⟨fun k i j h1 h2 h3 h4 => by omega, fun k i j h1 h2 h3 => h i j (by omega) h3⟩
theorem Runs.all {F : Nat → Int} {E : Nat → Nat} {n z : Nat} (h : Runs F E n z) (hz : n ≤ z) : SortedOn (ord F) E 0 n :=
  fun i j _ h2 h3 => h.s 0 i j (by omega) h2 (by omega) h3
end AlSo
