/-
  Both machines: made new, registers and words set and asked.
-/
import Derived.Test.YtpcocfdgcihpdaaSmT
import Derived.Test.YtpcocfdgcihpdaaRmI
import Derived.Test.YtpcocfdgcihpdaaSmCode
set_option maxHeartbeats 64000000
set_option maxRecDepth 1000000
set_option linter.unusedVariables false
set_option linter.unusedSimpArgs false
namespace Go.Proofs.Ytpcocfdgcihpdaa.rdw
open Go Go.RowKit Go.BigFrame
open Go.Proofs.Ytpcocfdgcihpdaa Go.Proofs.Ytpcocfdgcihpdaa.wr Go.Proofs.Ytpcocfdgcihpdaa.x86enc
theorem enc_b (op a b n : Int) (hn : I32 n) : RD.isBytes (encB op a b n) := by
  rcases enc_fit op a b n with ⟨h, _⟩ | ⟨_, h⟩
  · exact fit_bytes h hn
  · rw [h]; intro v hv; cases hv
theorem cat_b (Bs : Nat → List Int) (k : Nat) (h : ∀ i, i < k → RD.isBytes (Bs i)) : RD.isBytes (cat Bs k) := by
  induction k with
  | zero => intro v hv; simp [cat] at hv
  | succ k ih =>
    rw [cat_succ]
    intro v hv
    rcases List.mem_append.1 hv with hv | hv
    · exact ih (fun i hi => h i (by omega)) v hv
    · exact h k (by omega) v hv
theorem SimW.start1 {B : Nat} {w : World} {g gr gw gb cb : Nat} {bs : List Int} {nw : Nat} (h : NewM B w g gr gw gb cb bs nw) (hb : RD.isBytes bs) (hl : bs.length ≤ 100000) : SimW w g gr gw gb cb bs { m0 with W := List.replicate nw 0 } := by
  refine ⟨⟨0, 0, 0, 0, ⟨?_⟩⟩, RMem.start h.hr, h.row, ⟨?_⟩, h.dis, h.cap, ⟨hb, hl⟩, fun r hr => by unfold I32; simp [m0]⟩
  · rw [List.length_replicate]; exact h.h
  · rw [h.hw]
    congr 2
    apply Array.toList_inj.1
    rw [toList_madeCells_one]
    simp
def mw (nw : Nat) : Mach := { m0 with W := List.replicate nw 0 }
theorem words_start {w : World} {gw nw : Nat} (h : w.heap[gw]? = some (.cells (madeCells #[.int .i32 0] nw) 21 (0, 0))) : WMem w gw (List.replicate nw 0) := by
  refine ⟨?_⟩
  rw [h]
  congr 2
  apply Array.toList_inj.1
  rw [toList_madeCells_one]
  simp
theorem wok0 (nw : Nat) : WOk (mw nw) := fun i hi => by
  have : (mw nw).W.getD i 0 = 0 := by
    simp only [mw, List.getD]
    rw [List.getElem?_replicate]
    split <;> rfl
  rw [this]; unfold I32; omega
theorem reg0 (nw : Nat) : RegOk (mw nw) := fun r hr => by unfold I32; simp [mw, m0]
structure Spots (w w' : World) (g a b c : Nat) : Prop where
  low : w.heap.size ≤ g ∧ w.heap.size ≤ a ∧ w.heap.size ≤ b ∧ w.heap.size ≤ c
  high : g < w'.heap.size ∧ a < w'.heap.size ∧ b < w'.heap.size ∧ c < w'.heap.size
theorem newQ9 (bs : List Int) (B : Nat) (v : Value) (nw : Nat) (w : World) (hB : B ≤ w.heap.size) (h : w.ownsRow B 5 1 v bs.length (u8s bs)) (hby : RD.isBytes bs) (hlen : bs.length ≤ 100000) (hnw : nw ≤ 256) :
    Calls Try.prog 9 #[v, .int .i64 (nw : Int)] w fun e w' => ∃ g gr gw gb cb : Nat, e = .returned (.tuple #[ptr g, .int .i64 0]) ∧ SimQ w' g gr gw gb cb bs (mw nw) ∧ Spots w w' g gr gw gb ∧ Below w.heap.size w w' := by
  by_cases hne : bs = []
  · subst hne
    obtain ⟨va, vc, rfl⟩ := own_slice h
    refine (new9E va vc nw w hnw).mono fun e w' hh => ?_
    obtain ⟨g, gw, ca, ra, rfl, hn, hb⟩ := hh
    have l1 := block_lt hn.h
    have l2 := block_lt hn.hw
    refine ⟨g, g, gw, g, 0, rfl, .inr ⟨rfl, ⟨⟨ca, 0, .slice ra 0 0, 0, 0, 0, 0, ⟨by rw [show (mw nw).W.length = nw by simp [mw]]; exact hn.h⟩⟩, words_start hn.hw, hn.dis, reg0 nw, wok0 nw, by simp [mw]; omega⟩⟩, ⟨⟨hn.low.1, hn.low.1, hn.low.2, hn.low.1⟩, ⟨l1, l1, l2, l1⟩⟩, hb⟩
  · refine (new9 bs B v nw w hB h hne hlen hnw).mono fun e w' hh => ?_
    obtain ⟨g, gr, gw, gb, cb, rfl, hn, hb⟩ := hh
    exact ⟨g, gr, gw, gb, cb, rfl, .inl ⟨SimW.start1 hn hby hlen, wok0 nw, by simp [mw]; omega⟩, ⟨hn.low, ⟨block_lt hn.h, block_lt hn.hr, block_lt hn.hw, hn.row.1⟩⟩, hb⟩
theorem newQ17 (bs : List Int) (B : Nat) (v : Value) (nw : Nat) (w : World) (hB : B ≤ w.heap.size) (h : w.ownsRow B 5 1 v bs.length (u8s bs)) (hby : RD.isBytes bs) (hlen : bs.length ≤ 100000) (hnw : nw ≤ 256) :
    Calls Try.prog 17 #[v, .int .i64 (nw : Int)] w fun e w' => ∃ g gk gw gb cb : Nat, e = .returned (ptr g) ∧ RefQ w' g gk gw gb cb bs (mw nw) 0 ∧ (bs = [] → gk = g) ∧ Spots w w' g gk gw gb ∧ Below w.heap.size w w' := by
  by_cases hne : bs = []
  · subst hne
    obtain ⟨va, vc, rfl⟩ := own_slice h
    refine (new17E va vc nw w hnw).mono fun e w' hh => ?_
    obtain ⟨g, gw, ca, ka, rfl, hn, hb⟩ := hh
    have l1 := block_lt hn.h
    have l2 := block_lt hn.hw
    refine ⟨g, g, gw, g, 0, rfl, .inr ⟨rfl, ⟨⟨ca, 0, .slice ka 0 0, ⟨by rw [show (mw nw).W.length = nw by simp [mw]]; exact hn.h⟩⟩, words_start hn.hw, hn.dis, reg0 nw, rfl, wok0 nw, by simp [mw]; omega⟩⟩, fun _ => rfl, ⟨⟨hn.low.1, hn.low.1, hn.low.2, hn.low.1⟩, ⟨l1, l1, l2, l1⟩⟩, hb⟩
  · refine (new17 bs B v nw w hB h hne hlen hnw).mono fun e w' hh => ?_
    obtain ⟨g, gk, gw, gb, cb, rfl, hn, hb⟩ := hh
    exact ⟨g, gk, gw, gb, cb, rfl, .inl ⟨⟨⟨by rw [show (mw nw).W.length = nw by simp [mw]]; exact hn.h⟩, ⟨_, EMem.start hn.hk⟩, hn.row, words_start hn.hw, hn.dis, hn.cap, ⟨hby, hlen⟩, reg0 nw⟩, rfl, wok0 nw, by simp [mw]; omega⟩, fun e => absurd e hne, ⟨hn.low, ⟨block_lt hn.h, block_lt hn.hk, block_lt hn.hw, hn.row.1⟩⟩, hb⟩
theorem RMem.keepT {w w' : World} {gr : Nat} {S T : List Nat} {bs : List Int} {L : List Value} (h : RMem w gr S bs L) (ho : Only T w w') (hg : gr ∉ T) (hT : ∀ q d, KMem w q d → q ∉ T) : RMem w' gr S bs L :=
  ⟨(ho.same gr (block_lt h.h) hg).trans h.h, h.len, fun p hp => by
    rcases h.each p hp with e | ⟨q, d, e1, e2, e3, e4⟩
    · exact .inl e
    · exact .inr ⟨q, d, e1, e2, e3.keep ho (hT q d e3), e4⟩⟩
def Other (w : World) (q : Nat) : Prop := ∀ d, ¬ KMem w q d
theorem other_of {w : World} {q : Nat} {c : Array Value} {t : TypeId} (h : w.heap[q]? = some (.cells c t (0, 0))) (ht : t ≠ 69) : Other w q := fun d hk => by
  unfold KMem at hk
  rw [h] at hk
  injection hk with hk
  injection hk with _ hk _
  exact ht hk
theorem SimQ.keepT {w w' : World} {g gr gw gb cb : Nat} {bs : List Int} {m : Mach} {S : List Nat} (h : SimQ w g gr gw gb cb bs m) (ho : Only S w w') (hn : g ∉ S ∧ gr ∉ S ∧ gw ∉ S ∧ gb ∉ S) (hr : ∀ q ∈ S, Other w q) : SimQ w' g gr gw gb cb bs m := by
  rcases h with h | ⟨e, h⟩
  · obtain ⟨op, a, b, nn, hm⟩ := h.sim.mem
    obtain ⟨L, hL⟩ := h.sim.read
    exact .inl ⟨⟨⟨op, a, b, nn, hm.keep ho hn.1⟩, ⟨L, hL.keepT ho hn.2.1 fun q d hk hin => hr q hin d hk⟩, h.sim.row.keep ho hn.2.2.2, h.sim.words.keep ho hn.2.2.1, h.sim.dis, h.sim.cap, h.sim.byt, h.sim.regs⟩, h.wok, h.wl⟩
  · obtain ⟨ca, cb, rv, op, a, b, nn, hm⟩ := h.mem
    exact .inr ⟨e, ⟨⟨ca, cb, rv, op, a, b, nn, hm.keep ho hn.1⟩, h.words.keep ho hn.2.2.1, h.dis, h.regs, h.wok, h.wl⟩⟩
theorem RefQ.keepT {w w' : World} {g gk gw gb cb : Nat} {bs : List Int} {m : Mach} {l : Int} {S : List Nat} (h : RefQ w g gk gw gb cb bs m l) (ho : Only S w w') (hn : g ∉ S ∧ gk ∉ S ∧ gw ∉ S ∧ gb ∉ S) : RefQ w' g gk gw gb cb bs m l := by
  rcases h with h | ⟨e, h⟩
  · obtain ⟨c, hc⟩ := h.ref.ent
    exact .inl ⟨⟨h.ref.mem.keep ho hn.1, ⟨c, hc.keep ho hn.2.1⟩, h.ref.row.keep ho hn.2.2.2, h.ref.words.keep ho hn.2.2.1, h.ref.dis, h.ref.cap, h.ref.byt, h.ref.regs⟩, h.lok, h.wok, h.wl⟩
  · obtain ⟨ca, cb, kv, hm⟩ := h.mem
    exact .inr ⟨e, ⟨⟨ca, cb, kv, hm.keep ho hn.1⟩, h.words.keep ho hn.2.2.1, h.dis, h.regs, h.lok, h.wok, h.wl⟩⟩
theorem RefQ.other {w : World} {g gk gw gb cb : Nat} {bs : List Int} {m : Mach} {l : Int} (h : RefQ w g gk gw gb cb bs m l) : (bs = [] ∨ ∀ q ∈ [g, gk, gw], Other w q) ∧ ∀ q ∈ [g, gw], Other w q := by
  obtain ⟨⟨cv, kv, hm⟩, hw, _⟩ := h.facts
  have o1 := other_of hm.h (by decide)
  have o2 := other_of hw.h (by decide)
  refine ⟨?_, ?_⟩
  · rcases h with h | ⟨e, _⟩
    · obtain ⟨c, hc⟩ := h.ref.ent
      have o3 := other_of hc.h (by decide)
      right
      intro q hq
      simp only [List.mem_cons, List.not_mem_nil, or_false] at hq
      rcases hq with rfl | rfl | rfl <;> assumption
    · exact .inl e
  · intro q hq
    simp only [List.mem_cons, List.not_mem_nil, or_false] at hq
    rcases hq with rfl | rfl <;> assumption
theorem RefQ.other3 {w : World} {g gk gw gb cb : Nat} {bs : List Int} {m : Mach} {l : Int} (h : RefQ w g gk gw gb cb bs m l) (hk : bs = [] → gk = g) : ∀ q ∈ [g, gk, gw], Other w q := by
  obtain ⟨h1, h2⟩ := h.other
  rcases h1 with h1 | h1
  · rw [hk h1]
    intro q hq
    refine h2 q ?_
    simp only [List.mem_cons, List.not_mem_nil, or_false] at hq ⊢
    omega
  · exact h1
theorem upd_wok {m : Mach} {i : Nat} {v : Int} (h : WOk m) (hv : I32 v) : WOk { m with W := m.W.set i v } := fun j hj => by
  simp only [List.length_set] at hj
  by_cases e : i = j
  · subst e; simp only [List.getD, List.getElem?_set_self hj]; exact hv
  · simp only [List.getD, List.getElem?_set_ne e]; exact h j hj
theorem upd_reg {m : Mach} {r : Nat} {v : Int} (h : RegOk m) (hv : I32 v) : RegOk { m with R := upd m.R r v } := fun j hj => by
  show I32 (upd m.R r v j)
  unfold upd
  split
  · exact hv
  · exact h j hj
theorem setRegQ (g gr gw gb cb : Nat) (bs : List Int) (m : Mach) (r : Nat) (hr : r < 16) (v : Int) (hv : I32 v) (w : World) (h : SimQ w g gr gw gb cb bs m) :
    Calls Try.prog 12 #[ptr g, .int .i64 (r : Int), .int .i32 v] w fun e w' => e = .returned (.int .i64 (if RD.reg r = true then 0 else 1)) ∧ SimQ w' g gr gw gb cb bs (if RD.reg r = true then { m with R := upd m.R r v } else m) ∧ Only [g] w w' := by
  rcases h with h | ⟨rfl, h⟩
  · obtain ⟨⟨op0, a0, b0, n0, hm⟩, ⟨L, hL⟩, hrow, hwm, hdis, hcap, hbyt, hregs⟩ := h.sim
    refine (setReg12 g _ _ _ m op0 a0 b0 n0 r hr v w hm).mono fun e w' hh => ?_
    obtain ⟨rfl, h1, ho⟩ := hh
    refine ⟨rfl, .inl ?_, ho⟩
    have hL' := hL.keep ho (by simp; exact fun e => hdis.1 e.symm) (fun q hq => by simp at hq ⊢; exact hq.1)
    have hrow' := hrow.keep ho (by simp; exact fun e => hdis.2.2.1 e.symm)
    have hwm' := hwm.keep ho (by simp; exact fun e => hdis.2.1 e.symm)
    by_cases hx : RD.reg r = true
    · rw [if_pos hx] at h1 ⊢
      exact ⟨⟨⟨op0, a0, b0, n0, h1⟩, ⟨L, hL'⟩, hrow', hwm', hdis, hcap, hbyt, upd_reg hregs hv⟩, h.wok, h.wl⟩
    · rw [if_neg hx] at h1 ⊢
      exact ⟨⟨⟨op0, a0, b0, n0, h1⟩, ⟨L, hL'⟩, hrow', hwm', hdis, hcap, hbyt, hregs⟩, h.wok, h.wl⟩
  · obtain ⟨ca, cc, rv, op0, a0, b0, n0, hm⟩ := h.mem
    refine (setReg12 g _ _ _ m op0 a0 b0 n0 r hr v w hm).mono fun e w' hh => ?_
    obtain ⟨rfl, h1, ho⟩ := hh
    refine ⟨rfl, .inr ⟨rfl, ?_⟩, ho⟩
    have hwm' := h.words.keep ho (by simp; exact fun e => h.dis e.symm)
    by_cases hx : RD.reg r = true
    · rw [if_pos hx] at h1 ⊢
      exact ⟨⟨_, _, _, _, _, _, _, h1⟩, hwm', h.dis, upd_reg h.regs hv, h.wok, h.wl⟩
    · rw [if_neg hx] at h1 ⊢
      exact ⟨⟨_, _, _, _, _, _, _, h1⟩, hwm', h.dis, h.regs, h.wok, h.wl⟩
theorem setWordQ (g gr gw gb cb : Nat) (bs : List Int) (m : Mach) (i : Nat) (v : Int) (hv : I32 v) (w : World) (h : SimQ w g gr gw gb cb bs m) (hi : i < m.W.length) :
    Calls Try.prog 20 #[ptr g, .int .i64 (i : Int), .int .i32 v] w fun e w' => e = .returned (.int .i64 0) ∧ SimQ w' g gr gw gb cb bs { m with W := m.W.set i v } ∧ Only [gw] w w' := by
  rcases h with h | ⟨rfl, h⟩
  · obtain ⟨⟨op0, a0, b0, n0, hm⟩, ⟨L, hr⟩, hrow, hwm, hdis, hcap, hbyt, hregs⟩ := h.sim
    refine (setWord20b g gw _ _ m op0 a0 b0 n0 i m.W.length v m.W rfl hi (fun e => hdis.2.1 e.symm) w hm hwm).mono fun e w' hh => ?_
    obtain ⟨rfl, h1, h2, ho⟩ := hh
    exact ⟨rfl, .inl ⟨⟨⟨op0, a0, b0, n0, ⟨by rw [List.length_set]; exact h1.h⟩⟩, ⟨L, hr.keep ho (by simp; exact hdis.2.2.2.1) (fun q hq => by simp at hq ⊢; exact hq.2.2)⟩, hrow.keep ho (by simp; exact fun e => hdis.2.2.2.2.2 e.symm), h2, hdis, hcap, hbyt, hregs⟩, upd_wok h.wok hv, by simp only [List.length_set]; exact h.wl⟩, ho⟩
  · obtain ⟨ca, cc, rv, op0, a0, b0, n0, hm⟩ := h.mem
    refine (setWord20b g gw _ _ m op0 a0 b0 n0 i m.W.length v m.W rfl hi (fun e => h.dis e.symm) w hm h.words).mono fun e w' hh => ?_
    obtain ⟨rfl, h1, h2, ho⟩ := hh
    exact ⟨rfl, .inr ⟨rfl, ⟨⟨_, _, _, _, _, _, _, ⟨by rw [List.length_set]; exact h1.h⟩⟩, h2, h.dis, h.regs, upd_wok h.wok hv, by simp only [List.length_set]; exact h.wl⟩⟩, ho⟩
theorem refSetR {g gk gw gb cb : Nat} {bs : List Int} {m : Mach} {l : Int} {w : World} (h : RefQ w g gk gw gb cb bs m l) {r : Nat} (hr : r < 16) {v : Int} (hv : I32 v) : RefQ (w.setCell ⟨g, 1 + r, none⟩ (.int .i32 v)) g gk gw gb cb bs { m with R := upd m.R r v } l := by
  have ho : Only [g] w (w.setCell ⟨g, 1 + r, none⟩ (.int .i32 v)) := (Only.refl _ _).set _ (by simp)
  rcases h with h | ⟨e, h⟩
  · obtain ⟨c, hc⟩ := h.ref.ent
    have hdis := h.ref.dis
    exact .inl ⟨⟨h.ref.mem.set (1 + r) _ (nc_setR _ _ _ m l hr v), ⟨c, hc.keep ho (by simp; exact fun e => hdis.1 e.symm)⟩, h.ref.row.keep ho (by simp; exact fun e => hdis.2.2.1 e.symm), h.ref.words.keep ho (by simp; exact fun e => hdis.2.1 e.symm), hdis, h.ref.cap, h.ref.byt, upd_reg h.ref.regs hv⟩, h.lok, h.wok, h.wl⟩
  · obtain ⟨ca, cc, kv, hm⟩ := h.mem
    exact .inr ⟨e, ⟨⟨_, _, _, hm.set (1 + r) _ (nc_setR _ _ _ m l hr v)⟩, h.words.keep ho (by simp; exact fun e => h.dis e.symm), h.dis, upd_reg h.regs hv, h.lok, h.wok, h.wl⟩⟩
theorem refSetW {g gk gw gb cb : Nat} {bs : List Int} {m : Mach} {l : Int} {w : World} (h : RefQ w g gk gw gb cb bs m l) {i : Nat} {v : Int} (hv : I32 v) : RefQ (w.setCell ⟨gw, i, none⟩ (.int .i32 v)) g gk gw gb cb bs { m with W := m.W.set i v } l := by
  have ho : Only [gw] w (w.setCell ⟨gw, i, none⟩ (.int .i32 v)) := (Only.refl _ _).set _ (by simp)
  rcases h with h | ⟨e, h⟩
  · obtain ⟨c, hc⟩ := h.ref.ent
    have hdis := h.ref.dis
    have hm := h.ref.mem.keep ho (by simp; exact hdis.2.1)
    exact .inl ⟨⟨⟨by rw [List.length_set]; exact hm.h⟩, ⟨c, hc.keep ho (by simp; exact hdis.2.2.2.1)⟩, h.ref.row.keep ho (by simp; exact fun e => hdis.2.2.2.2.2 e.symm), h.ref.words.set i v, hdis, h.ref.cap, h.ref.byt, h.ref.regs⟩, h.lok, upd_wok h.wok hv, by simp only [List.length_set]; exact h.wl⟩
  · obtain ⟨ca, cc, kv, hm⟩ := h.mem
    have hm := hm.keep ho (by simp; exact h.dis)
    exact .inr ⟨e, ⟨⟨_, _, _, ⟨by rw [List.length_set]; exact hm.h⟩⟩, h.words.set i v, h.dis, h.regs, h.lok, upd_wok h.wok hv, by simp only [List.length_set]; exact h.wl⟩⟩
theorem RefQ.drewN {g gk gw gb cb : Nat} {bs : List Int} {m : Mach} {l : Int} {w : World} (h : RefQ w g gk gw gb cb bs m l) (n : Nat) : RefQ (w.drewN n) g gk gw gb cb bs m l := h.keepT (S := []) (only_drewN _ _ _) (by simp)
theorem SimQ.drewN {g gr gw gb cb : Nat} {bs : List Int} {m : Mach} {w : World} (h : SimQ w g gr gw gb cb bs m) (n : Nat) : SimQ (w.drewN n) g gr gw gb cb bs m := h.keepT (S := []) (only_drewN _ _ _) (by simp) (by simp)
end Go.Proofs.Ytpcocfdgcihpdaa.rdw
