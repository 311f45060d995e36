/-
  sim.Machine.decoded: the instruction that stands at the place, read once.
-/
import Derived.Test.YtpcocfdgcihpdaaSmD
set_option maxHeartbeats 64000000
set_option maxRecDepth 1000000
set_option linter.unusedVariables false
set_option linter.unusedSimpArgs false
namespace Go.Proofs.Ytpcocfdgcihpdaa.rdw
open Go Go.RowKit Go.BigFrame
open Go.Proofs.Ytpcocfdgcihpdaa Go.Proofs.Ytpcocfdgcihpdaa.wr Go.Proofs.Ytpcocfdgcihpdaa.x86enc
set_option linter.unusedVariables false
set_option linter.unusedSimpArgs false
def kc : RD.Dec → List Value
  | .ok op a b n len => [.int .i64 (op : Int), .int .i64 a, .int .i64 b, .int .i32 n, .int .i64 ((len : Nat) : Int), .int .i64 0]
  | .err e => [.int .i64 0, .int .i64 0, .int .i64 0, .int .i32 0, .int .i64 0, .int .i64 e]
theorem dec_shape (d : RD.Dec) : ∃ o a b n len er : Int, decV d = .tuple #[.agg #[.int .i64 o, .int .i64 a, .int .i64 b, .int .i32 n], .int .i64 len, .int .i64 er] ∧ kc d = [.int .i64 o, .int .i64 a, .int .i64 b, .int .i32 n, .int .i64 len, .int .i64 er] := by
  cases d with
  | ok op a b n len => exact ⟨_, _, _, _, _, _, rfl, rfl⟩
  | err e => exact ⟨_, _, _, _, _, _, rfl, rfl⟩
def KMem (w : World) (q : Nat) (d : RD.Dec) : Prop := w.heap[q]? = some (.cells (kc d).toArray 69 (0, 0))
theorem KMem.keep {w w' : World} {q : Nat} {d : RD.Dec} {S : List Nat} (h : KMem w q d) (ho : Only S w w') (hq : q ∉ S) : KMem w' q d := (ho.same q (block_lt h) hq).trans h
structure RMem (w : World) (gr : Nat) (S : List Nat) (bs : List Int) (L : List Value) : Prop where
  h : w.heap[gr]? = some (.cells L.toArray 66 (0, 0))
  len : L.length = bs.length
  each : ∀ p : Nat, p < bs.length → L[p]? = some (.pointer none) ∨ ∃ q d, L[p]? = some (ptr q) ∧ q ∉ S ∧ KMem w q d ∧ DecAt bs p d
theorem RMem.keep {w w' : World} {gr : Nat} {S T : List Nat} {bs : List Int} {L : List Value} (h : RMem w gr S bs L) (ho : Only T w w') (hg : gr ∉ T) (hT : ∀ q, q ∉ S → q ∉ T) : RMem w' gr S bs L :=
  ⟨(ho.same gr (block_lt h.h) hg).trans h.h, h.len, fun p hp => by
    rcases h.each p hp with e | ⟨q, d, e1, e2, e3, e4⟩
    · exact .inl e
    · exact .inr ⟨q, d, e1, e2, e3.keep ho (hT q e2), e4⟩⟩
theorem RMem.start {w : World} {gr : Nat} {S : List Nat} {bs : List Int} (h : w.heap[gr]? = some (.cells (madeCells #[.pointer none] bs.length) 66 (0, 0))) : ∃ L, RMem w gr S bs L := by
  refine ⟨List.replicate bs.length (.pointer none), ?_, by simp, fun p hp => .inl ?_⟩
  · rw [h]
    congr 2
    apply Array.toList_inj.1
    rw [toList_madeCells_one]
  · rw [List.getElem?_replicate_of_lt hp]
theorem RMem.cell {w : World} {gr : Nat} {S : List Nat} {bs : List Int} {L : List Value} (h : RMem w gr S bs L) {p : Nat} {v : Value} (e : L[p]? = some v) : w.cell? ⟨gr, p, none⟩ = some v := by
  simp only [World.cell?, h.h]; simpa using e
theorem RMem.put {w : World} {gr : Nat} {S : List Nat} {bs : List Int} {L : List Value} (h : RMem w gr S bs L) {k q : Nat} {d : RD.Dec} (hS : gr ∈ S) (hk : k < bs.length) {w' : World} (ho : Only [gr] w w') (hh : w'.heap[gr]? = (w.setCell ⟨gr, k, none⟩ (ptr q)).heap[gr]?) (hq : q ∉ S) (hK : KMem w' q d) (hd : DecAt bs k d) : RMem w' gr S bs (L.set k (ptr q)) := by
  refine ⟨?_, by simp [h.len], fun p hp => ?_⟩
  · rw [hh, setCell_self, h.h]
    simp only [Option.map_some, setObj, List.setIfInBounds_toArray]
  · by_cases e : k = p
    · subst e
      exact .inr ⟨q, d, by rw [List.getElem?_set_self (by rw [h.len]; exact hk)], hq, hK, hd⟩
    · rw [List.getElem?_set_ne e]
      rcases h.each p hp with e1 | ⟨q', d', e1, e2, e3, e4⟩
      · exact .inl e1
      · exact .inr ⟨q', d', e1, e2, e3.keep ho (by simp; exact fun e => e2 (e ▸ hS)), e4⟩
theorem RMem.froz {w : World} {gr : Nat} {S : List Nat} {bs : List Int} {L : List Value} (h : RMem w gr S bs L) (p : Nat) : w.frozen? ⟨gr, p, none⟩ = false := by
  simp only [World.frozen?, h.h]; simp
abbrev csl (gb n cb : Nat) : Value := .slice (some ⟨gb, 0, none⟩) n cb
theorem decoded29 (g gr gb cb k : Nat) (S : List Nat) (wv : Value) (m : Mach) (op a b n : Int) (bs : List Int) (L : List Value) (hS : gr ∈ S ∧ g ≠ gr ∧ g ∈ S) (hk : m.at_ = (k : Int)) (hkl : k < bs.length) (hbs : RD.isBytes bs) (hcb : bs.length ≤ cb ∧ cb ≤ 9223372036854775807) (w : World) (hlt : ∀ q ∈ S, q < w.heap.size)
    (h : SMem w g (csl gb bs.length cb) (csl gr bs.length bs.length) wv m op a b n) (hr : RMem w gr S bs L) (hrow : Row w gb 0 bs) :
    Calls Try.prog 29 #[ptr g] w fun e w' => ∃ q d L', e = .returned (ptr q) ∧ q ∉ S ∧ KMem w' q d ∧ DecAt bs k d ∧ RMem w' gr S bs L' ∧ Only [gr] w w' := by
  have c0 := h.cell 0 rfl
  have c1 := h.cell 1 rfl
  have c19 := h.cell 19 rfl
  rw [hk] at c19
  have H := Lib.hid h; clear h
  have HR := Lib.hid hr; clear hr
  have HW := Lib.hid hrow; clear hrow
  have hkb : (k : Int) < (bs.length : Int) := by omega
  have d1 : decide ((bs.length : Int) ≤ (k : Int)) = false := by simp; omega
  have d2 : decide (bs.length ≤ k) = false := by simp; omega
  have HL := Lib.hid hlt; clear hlt
  rcases HR.out.each k hkl with e | ⟨q, d, e1, e2, e3, e4⟩
  · have cr := HR.out.cell e
    go_enter Try.func29, Try.ntmps29
    go_wp2_with fail
    go_quiet (fail)
    generalize nq = n1 at *
    go_wp2_with fail
    go_quiet (fail)
    generalize nq = n2 at *
    go_wp2_with fail
    have HO : Hid (Only [gr] w ((w.drewN n1).drewN n2)) := Lib.hid ⟨rfl, rfl, rfl, Nat.le_refl _, fun _ _ _ => rfl⟩
    have H1 : Hid (SMem ((w.drewN n1).drewN n2) g (csl gb bs.length cb) (csl gr bs.length bs.length) wv m op a b n) := Lib.hid ⟨H.out.h⟩
    have HA : Hid (Arr ((w.drewN n1).drewN n2) (some ⟨gb, 0, none⟩) bs.length cb bs) := Lib.hid ⟨rfl, hcb.1, hcb.2, hbs, fun _ => ⟨gb, 0, rfl, HW.out⟩⟩
    have HR1 : Hid (RMem ((w.drewN n1).drewN n2) gr S bs L) := Lib.hid ⟨HR.out.h, HR.out.len, HR.out.each⟩
    have hltg : g < ((w.drewN n1).drewN n2).heap.size := HL.out g hS.2.2
    have hltgr : gr < ((w.drewN n1).drewN n2).heap.size := HL.out gr hS.1
    have c0' : ((w.drewN n1).drewN n2).cell? ⟨g, 0, none⟩ = some (csl gb bs.length cb) := c0
    have c1' : ((w.drewN n1).drewN n2).cell? ⟨g, 1, none⟩ = some (csl gr bs.length bs.length) := c1
    have c19' : ((w.drewN n1).drewN n2).cell? ⟨g, 19, none⟩ = some (.int .i64 (k : Int)) := c19
    have hsz0 : w.heap.size = ((w.drewN n1).drewN n2).heap.size := rfl
    have HC := Lib.hid hcb; clear hcb
    have HB := Lib.hid hbs; clear hbs
    have HE := Lib.hid e; clear e
    clear c0 c1 c19 cr
    generalize (w.drewN n1).drewN n2 = wa at *
    have hne := hS.2.1
    go_cut [3, 4, 5] (fun v3 v4 v5 wc => ∃ (q3 : Nat) (d : RD.Dec) (o' a' b' n' len' er' : Int), v3 = ptr q3 ∧ v4 = .int .i64 len' ∧ v5 = .int .i64 er' ∧ Hid (DecAt bs k d ∧ kc d = [.int .i64 o', .int .i64 a', .int .i64 b', .int .i32 n', .int .i64 len', .int .i64 er']) ∧ Hid (wc.heap[q3]? = some (.cells #[.int .i64 o', .int .i64 a', .int .i64 b', .int .i32 n'] 30 (0, 0))) ∧ Hid (Below wa.heap.size wa wc))
    case first =>
      go_region_law (go_simp; go_at_call 38; refine (dec17F _ bs.length cb (k : Int) bs _ (by first | exact HA.out | exact HA.out.mono (((Below.refl _ _).alloc (Nat.le_refl _) _).drew))).mono ?_; rintro e w2 ⟨d, hd, rfl, hb2⟩; obtain ⟨o', a', b', n', len', er', hdv, hkc⟩ := dec_shape d; have HD := Lib.hid (And.intro hd hkc); clear hd hkc; have hb3 : Below wa.heap.size wa w2 := (by first | exact ⟨hb2.os, hb2.tape, hb2.output, hb2.size, hb2.block⟩ | exact ((Below.refl wa.heap.size wa).alloc (Nat.le_refl _) _).trans (Below.mono ⟨hb2.os, hb2.tape, hb2.output, hb2.size, hb2.block⟩ (by simp))); have g0 := (hb3.cell (p := ⟨g, 0, none⟩) hltg).trans c0'; have g19 := (hb3.cell (p := ⟨g, 19, none⟩) hltg).trans c19'; first | (have zz : w2.heap[wa.heap.size]? = some Z4 := (hb2.block _ (by simp)).trans (heap_alloc_new wa _); obtain ⟨z0, z1, z2, z3⟩ := cells4 zz; obtain ⟨y0, y1, y2, y3⟩ := froz4 zz; have ZZ := Lib.hid zz; clear zz) | skip; rw [hdv])
      all_goals go_wp2
      all_goals go_meet
      all_goals
        case rel =>
          refine ⟨_, d, _, _, _, _, _, _, rfl, rfl, rfl, HD, Lib.hid ?_, Lib.hid ?_⟩
          · first
              | with_reducible exact heap_alloc_new _ _
              | with_reducible exact fin4 ZZ.out _ _ _ _
          · first
              | with_reducible exact hb3.alloc hb3.size _
              | with_reducible exact (((hb3.setCell (Nat.le_refl _) _).setCell (Nat.le_refl _) _).setCell (Nat.le_refl _) _).setCell (Nat.le_refl _) _
    case rest =>
      obtain ⟨q3, d, o', a', b', n', len', er', rfl, rfl, rfl, hd, h3, hb3⟩ := hcut
      have g1 := (hb3.out.cell (p := ⟨g, 1, none⟩) hltg).trans c1'
      have g19 := (hb3.out.cell (p := ⟨g, 19, none⟩) hltg).trans c19'
      have l1 := Nat.lt_of_lt_of_le hltg hb3.out.size
      have l2 := Nat.lt_of_lt_of_le hltgr hb3.out.size
      have HR2 := Lib.hid (HR1.out.keep (Only.below (S := []) hb3.out) (by simp) (fun _ _ => by simp))
      have r1 := HR2.out.cell HE.out
      have r2 := HR2.out.froz k
      obtain ⟨z0, z1, z2, z3⟩ := cells4 h3.out
      have l3 := block_lt h3.out
      clear c0' c1' c19' hltg hltgr
      go_wp2_with fail
      go_region
      have ho5 : Only [gr] wc (((wc.setCell ⟨gr, k, none⟩ (ptr wc.heap.size)).alloc (Obj.cells #[.int .i64 o', .int .i64 a', .int .i64 b', .int .i32 n', .int .i64 len', .int .i64 er'] 69)).drew) := (((Only.refl _ _).set _ (by simp)).alloc _).drew
      have hK5 : KMem (((wc.setCell ⟨gr, k, none⟩ (ptr wc.heap.size)).alloc (Obj.cells #[.int .i64 o', .int .i64 a', .int .i64 b', .int .i32 n', .int .i64 len', .int .i64 er'] 69)).drew) wc.heap.size d := by
        unfold KMem
        rw [hd.out.2]
        exact look_new (by simp) rfl
      have hh5 : (((wc.setCell ⟨gr, k, none⟩ (ptr wc.heap.size)).alloc (Obj.cells #[.int .i64 o', .int .i64 a', .int .i64 b', .int .i32 n', .int .i64 len', .int .i64 er'] 69)).drew).heap[gr]? = (wc.setCell ⟨gr, k, none⟩ (ptr wc.heap.size)).heap[gr]? := Below.heap_alloc _ _ _ (by simpa using l2)
      have hqS : wc.heap.size ∉ S := fun hin => by have := HL.out _ hin; have := hb3.out.size; omega
      have hw5 : Only [gr] w wc := HO.out.trans (Only.below hb3.out)
      have HR5 := Lib.hid (HR2.out.put hS.1 hkl ho5 hh5 hqS hK5 hd.out.1)
      have hget : (L.set k (ptr wc.heap.size))[k]? = some (ptr wc.heap.size) := by rw [List.getElem?_set_self (by rw [HR2.out.len]; exact hkl)]
      have r5 := HR5.out.cell hget
      have g1' : (((wc.setCell ⟨gr, k, none⟩ (ptr wc.heap.size)).alloc (Obj.cells #[.int .i64 o', .int .i64 a', .int .i64 b', .int .i32 n', .int .i64 len', .int .i64 er'] 69)).drew).cell? ⟨g, 1, none⟩ = some (csl gr bs.length bs.length) := by
        have e5 := ho5.same g l1 (by simp; exact hne)
        simp only [World.cell?, e5]
        exact g1
      have g19' : (((wc.setCell ⟨gr, k, none⟩ (ptr wc.heap.size)).alloc (Obj.cells #[.int .i64 o', .int .i64 a', .int .i64 b', .int .i32 n', .int .i64 len', .int .i64 er'] 69)).drew).cell? ⟨g, 19, none⟩ = some (.int .i64 (k : Int)) := by
        have e5 := ho5.same g l1 (by simp; exact hne)
        simp only [World.cell?, e5]
        exact g19
      have HF := Lib.hid (And.intro (hw5.trans ho5) hK5)
      clear g1 g19 l1 l2 r1 r2 z0 z1 z2 z3 l3 ho5 hK5 hh5 hw5 hget h3
      generalize ((wc.setCell ⟨gr, k, none⟩ (ptr wc.heap.size)).alloc (Obj.cells #[.int .i64 o', .int .i64 a', .int .i64 b', .int .i32 n', .int .i64 len', .int .i64 er'] 69)).drew = w5 at *
      go_wp2_with fail
      go_quiet (fail)
      go_wp2_with fail
      go_ret
      have hfin := HF.out
      exact ⟨wc.heap.size, d, _, rfl, hqS, hfin.2, hd.out.1, ⟨HR5.out.h, HR5.out.len, HR5.out.each⟩, ⟨hfin.1.os, hfin.1.tape, hfin.1.output, hfin.1.size, hfin.1.same⟩⟩
  · have cr := HR.out.cell e1
    have E := Lib.hid (And.intro e1 (And.intro e2 (And.intro e3 e4))); clear e1 e2 e3 e4
    go_enter Try.func29, Try.ntmps29
    go_wp2_with fail
    go_quiet (fail)
    go_wp2_with fail
    go_quiet (fail)
    go_wp2_with fail
    go_quiet (fail)
    go_wp2_with fail
    go_ret
    obtain ⟨e1, e2, e3, e4⟩ := E.out
    exact ⟨q, d, L, rfl, e2, e3, e4, ⟨HR.out.h, HR.out.len, HR.out.each⟩, ⟨rfl, rfl, rfl, Nat.le_refl _, fun _ _ _ => rfl⟩⟩
end Go.Proofs.Ytpcocfdgcihpdaa.rdw
