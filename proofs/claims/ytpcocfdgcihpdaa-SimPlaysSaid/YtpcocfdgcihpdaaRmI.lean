/-
  caraferef20.Machine: Step and Run, with code or with none.
-/
import Derived.Test.YtpcocfdgcihpdaaRmH
set_option maxHeartbeats 64000000
set_option maxRecDepth 1000000
set_option linter.unusedVariables false
set_option linter.unusedSimpArgs false
namespace Go.Proofs.Ytpcocfdgcihpdaa.rdw
open Go Go.RowKit Go.BigFrame
open Go.Proofs.Ytpcocfdgcihpdaa Go.Proofs.Ytpcocfdgcihpdaa.wr Go.Proofs.Ytpcocfdgcihpdaa.x86enc
structure RefA (w : World) (g gk gw gb cb : Nat) (bs : List Int) (m : Mach) (l : Int) : Prop where
  ref : RefW w g gk gw gb cb bs m l
  lok : LOk m l
  wok : WOk m
  wl : m.W.length ≤ 1000
structure RefE (w : World) (g gw : Nat) (m : Mach) (l : Int) : Prop where
  mem : ∃ ca cb kv, NMem w g (.slice ca 0 cb) (wsl gw m.W.length) kv m l
  words : WMem w gw m.W
  dis : g ≠ gw
  regs : RegOk m
  lok : LOk m l
  wok : WOk m
  wl : m.W.length ≤ 1000
def RefQ (w : World) (g gk gw gb cb : Nat) (bs : List Int) (m : Mach) (l : Int) : Prop := RefA w g gk gw gb cb bs m l ∨ (bs = [] ∧ RefE w g gw m l)
theorem RefQ.facts {w : World} {g gk gw gb cb : Nat} {bs : List Int} {m : Mach} {l : Int} (h : RefQ w g gk gw gb cb bs m l) : (∃ cv kv, NMem w g cv (wsl gw m.W.length) kv m l) ∧ WMem w gw m.W ∧ g ≠ gw ∧ RegOk m ∧ WOk m ∧ m.W.length ≤ 1000 := by
  rcases h with h | ⟨_, h⟩
  · exact ⟨⟨_, _, h.ref.mem⟩, h.ref.words, h.ref.dis.2.1, h.ref.regs, h.wok, h.wl⟩
  · obtain ⟨ca, cb, kv, hm⟩ := h.mem
    exact ⟨⟨_, _, hm⟩, h.words, h.dis, h.regs, h.wok, h.wl⟩
theorem RefQ.keep {w w' : World} {g gk gw gb cb : Nat} {bs : List Int} {m : Mach} {l : Int} {S : List Nat} (h : RefQ w g gk gw gb cb bs m l) (ho : Only S w w') (B : Nat) (hB : ∀ q ∈ S, q < B) (hg : B ≤ g ∧ B ≤ gk ∧ B ≤ gw ∧ B ≤ gb) : RefQ w' g gk gw gb cb bs m l := by
  have n : ∀ x, B ≤ x → x ∉ S := fun x hx hin => by have := hB x hin; omega
  rcases h with h | ⟨e, h⟩
  · obtain ⟨c, hc⟩ := h.ref.ent
    exact .inl ⟨⟨h.ref.mem.keep ho (n _ hg.1), ⟨c, hc.keep ho (n _ hg.2.1)⟩, h.ref.row.keep ho (n _ hg.2.2.2), h.ref.words.keep ho (n _ hg.2.2.1), h.ref.dis, h.ref.cap, h.ref.byt, h.ref.regs⟩, h.lok, h.wok, h.wl⟩
  · obtain ⟨ca, cb, kv, hm⟩ := h.mem
    exact .inr ⟨e, ⟨⟨ca, cb, kv, hm.keep ho (n _ hg.1)⟩, h.words.keep ho (n _ hg.2.2.1), h.dis, h.regs, h.lok, h.wok, h.wl⟩⟩
theorem LOk.over {m : Mach} {l : Int} (h : LOk m l) (hl : l = 2 ∨ l = 4 ∨ l = 5) : m.over = l := by unfold LOk at h; rw [if_pos hl] at h; exact h
theorem LOk.not {m : Mach} {l : Int} (h : LOk m l) (hl : ¬ (l = 2 ∨ l = 4 ∨ l = 5)) : m.over = 0 := by unfold LOk at h; rw [if_neg hl] at h; exact h
theorem stepR (g gk gw gb cb : Nat) (bs : List Int) (m : Mach) (l : Int) (w : World) (h : RefQ w g gk gw gb cb bs m l) :
    Calls Try.prog 25 #[ptr g] w fun e w' => ∃ m' s, e = .returned (.int .i64 s) ∧ next bs m m' s ∧ RefQ w' g gk gw gb cb bs m' s ∧ m'.W.length = m.W.length ∧ Only [g, gk, gw] w w' := by
  by_cases hl : l = 2 ∨ l = 4 ∨ l = 5
  · obtain ⟨⟨cv, kv, hm⟩, _⟩ := h.facts
    have hov : m.over = l := by
      rcases h with h | ⟨_, h⟩
      · exact h.lok.over hl
      · exact h.lok.over hl
    refine (step25_over g _ _ _ m l hl w hm).mono fun e w' hh => ?_
    obtain ⟨rfl, rfl⟩ := hh
    exact ⟨m, l, rfl, .inl ⟨by rw [hov]; omega, rfl, hov.symm⟩, h, rfl, Only.refl _ _⟩
  · rcases h with h | ⟨rfl, h⟩
    · have hov := h.lok.not hl
      by_cases hin : m.at_ < 0 ∨ (bs.length : Int) ≤ m.at_
      · have hd : DecAt bs m.at_ (.err 1) := .inr ⟨hin, rfl⟩
        refine (step25_out g _ bs.length cb _ _ m l hl hin w h.ref.mem).mono fun e w' hh => ?_
        obtain ⟨rfl, h1, h2⟩ := hh
        obtain ⟨c, hc⟩ := h.ref.ent
        have hdis := h.ref.dis
        exact ⟨{ m with over := 5 }, 5, rfl, .inr ⟨hov, _, hd, rfl, rfl⟩, .inl ⟨⟨⟨h1.h⟩, ⟨c, hc.keep h2 (by simp; exact fun e => hdis.1 e.symm)⟩, h.ref.row.keep h2 (by simp; exact fun e => hdis.2.2.1 e.symm), h.ref.words.keep h2 (by simp; exact fun e => hdis.2.1 e.symm), hdis, h.ref.cap, h.ref.byt, h.ref.regs⟩, by unfold LOk; simp, h.wok, h.wl⟩, rfl, h2.mono (by simp)⟩
      · obtain ⟨c, hc⟩ := h.ref.ent
        obtain ⟨k, hk, hkl⟩ : ∃ k : Nat, m.at_ = (k : Int) ∧ k < bs.length := ⟨m.at_.toNat, by omega, by omega⟩
        obtain ⟨en, he, hen⟩ := hc.each k hkl
        have key : ∀ d, DecAt bs m.at_ d → (∀ op a b n len, d = .ok op a b n len → ∃ ra rb : Nat, 1 ≤ op ∧ op ≤ 26 ∧ ra < 16 ∧ rb < 16 ∧ a = (ra : Int) ∧ b = (rb : Int) ∧ I32 n ∧ len ≤ 7) := by
          rintro d hd op a b n len rfl
          rcases hd with ⟨_, _, hr⟩ | ⟨_, hr⟩
          · obtain ⟨f1, f2, ⟨ra, ha, rfl⟩, ⟨rb, hb, rfl⟩, hn', hl⟩ := read_fit hr
            exact ⟨ra, rb, f1, f2, ha, hb, rfl, rfl, hn', hl⟩
          · cases hr
        have post : ∀ d, DecAt bs m.at_ d → ∀ e w', RPost g gk gw gb cb bs m d w e w' → ∃ m' s, e = .returned (.int .i64 s) ∧ next bs m m' s ∧ RefQ w' g gk gw gb cb bs m' s ∧ m'.W.length = m.W.length ∧ Only [g, gk, gw] w w' := by
          rintro d hd e w' ⟨h1, h2, h3, h4, h5, h6⟩
          exact ⟨_, _, h1, .inr ⟨hov, d, hd, rfl, rfl⟩, .inl ⟨h2, h3, h4, by rw [h5]; exact h.wl⟩, h5, h6⟩
        by_cases hdone : en.done = true
        · obtain ⟨op, len, e1, e2, hd⟩ := hen hdone
          rw [← hk] at hd
          obtain ⟨ra, rb, f1, f2, f3, f4, f5, f6, f7, f8⟩ := key _ hd op _ _ _ len rfl
          have hen' : en = ⟨true, op, ra, rb, en.n, len⟩ := by
            cases en; simp only at hdone e1 e2 f5 f6; subst hdone e1 e2 f5 f6; rfl
          rw [f5, f6] at hd
          rw [hen'] at he
          exact (step25_done g gk gw gb cb k bs m l op ra rb en.n len c w h.ref hl h.lok h.wok h.wl hk hkl hd f1 f2 f3 f4 f7 f8 hc he).mono (post _ hd)
        · have he' : ∀ j u, (ecell { en with done := false })[j]? = some u → c[k * 6 + j]? = some u := by
            have : { en with done := false } = en := by cases en; simp only at hdone; simp only [Bool.not_eq_true] at hdone; subst hdone; rfl
            rw [this]; exact he
          obtain ⟨d, hd⟩ := decAt_ex bs m.at_
          cases d with
          | ok op a b n len =>
            obtain ⟨ra, rb, f1, f2, f3, f4, rfl, rfl, f7, f8⟩ := key _ hd op _ _ _ len rfl
            exact (step25_new g gk gw gb cb k bs m l op ra rb n len c w h.ref hl h.lok h.wok h.wl hk hkl hd f1 f2 f3 f4 f7 f8 hc en he').mono (post _ hd)
          | err er =>
            have her : er ≠ 0 := by
              rcases hd with ⟨_, _, hr⟩ | ⟨_, hr⟩
              · rcases err_val hr with rfl | rfl <;> decide
              · injection hr with hr; rw [hr]; decide
            exact (step25_err g gk gw gb cb k bs m l er c w h.ref hl h.lok h.wok h.wl hk hkl hd her hc en he').mono (post _ hd)
    · obtain ⟨ca, cc, kv, hm⟩ := h.mem
      have hov := h.lok.not hl
      have hd : DecAt [] m.at_ (.err 1) := .inr ⟨by simp; omega, rfl⟩
      refine (step25_out g ca 0 cc _ _ m l hl (by simp; omega) w hm).mono fun e w' hh => ?_
      obtain ⟨rfl, h1, h2⟩ := hh
      exact ⟨{ m with over := 5 }, 5, rfl, .inr ⟨hov, _, hd, rfl, rfl⟩, .inr ⟨rfl, ⟨⟨_, _, _, ⟨h1.h⟩⟩, h.words.keep h2 (by simp; exact fun e => h.dis e.symm), h.dis, h.regs, by unfold LOk; simp, h.wok, h.wl⟩⟩, rfl, h2.mono (by simp)⟩
end Go.Proofs.Ytpcocfdgcihpdaa.rdw
