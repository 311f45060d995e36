/-
  How caraferef20.Machine lies in memory; its flags and jumps.
-/
import Derived.Test.YtpcocfdgcihpdaaSmMeth
set_option maxHeartbeats 64000000
set_option maxRecDepth 1000000
set_option linter.unusedVariables false
set_option linter.unusedSimpArgs false
namespace Go.Proofs.Ytpcocfdgcihpdaa.rdw
open Go Go.RowKit Go.BigFrame
open Go.Proofs.Ytpcocfdgcihpdaa Go.Proofs.Ytpcocfdgcihpdaa.wr Go.Proofs.Ytpcocfdgcihpdaa.x86enc
set_option linter.unusedVariables false
set_option linter.unusedSimpArgs false
def nc (cv wv kv : Value) (m : Mach) (last : Int) : List Value :=
  [cv, .int .i32 (m.R 0), .int .i32 (m.R 1), .int .i32 (m.R 2), .int .i32 (m.R 3), .int .i32 (m.R 4), .int .i32 (m.R 5), .int .i32 (m.R 6), .int .i32 (m.R 7),
   .int .i32 (m.R 8), .int .i32 (m.R 9), .int .i32 (m.R 10), .int .i32 (m.R 11), .int .i32 (m.R 12), .int .i32 (m.R 13), .int .i32 (m.R 14), .int .i32 (m.R 15),
   wv, .int .i64 m.at_, .bool m.Z, .bool m.S, .bool m.O, .int .i64 m.N, .int .i64 last, kv]
theorem nc_reg (cv wv kv : Value) (m : Mach) (l : Int) {r : Nat} (h : r < 16) : (nc cv wv kv m l)[1 + r]? = some (.int .i32 (m.R r)) := by
  rcases r16 h with e | e | e | e | e | e | e | e | e | e | e | e | e | e | e | e <;> subst e <;> rfl
theorem nc_setR (cv wv kv : Value) (m : Mach) (l : Int) {r : Nat} (h : r < 16) (v : Int) : (nc cv wv kv m l).set (1 + r) (.int .i32 v) = nc cv wv kv { m with R := upd m.R r v } l := by
  rcases r16 h with e | e | e | e | e | e | e | e | e | e | e | e | e | e | e | e <;> subst e <;> simp [nc, upd]
structure NMem (w : World) (g : Nat) (cv wv kv : Value) (m : Mach) (l : Int) : Prop where
  h : w.heap[g]? = some (.cells (nc cv wv kv m l).toArray 48 (0, 0))
theorem NMem.set {w : World} {g : Nat} {cv wv kv : Value} {m : Mach} {l : Int} (h : NMem w g cv wv kv m l) (j : Nat) (u : Value) {m' : Mach} {l' : Int} (e : (nc cv wv kv m l).set j u = nc cv wv kv m' l') :
    NMem (w.setCell ⟨g, j, none⟩ u) g cv wv kv m' l' := by
  constructor
  rw [setCell_self, h.h]
  simp only [Option.map_some, setObj, List.setIfInBounds_toArray, e]
theorem NMem.drew {w : World} {g : Nat} {cv wv kv : Value} {m : Mach} {l : Int} (h : NMem w g cv wv kv m l) : NMem w.drew g cv wv kv m l := ⟨h.h⟩
theorem NMem.cell {w : World} {g : Nat} {cv wv kv : Value} {m : Mach} {l : Int} (h : NMem w g cv wv kv m l) (j : Nat) {u : Value} (e : (nc cv wv kv m l)[j]? = some u) : w.cell? ⟨g, j, none⟩ = some u := by
  simp only [World.cell?, h.h]; simpa using e
theorem NMem.froz {w : World} {g : Nat} {cv wv kv : Value} {m : Mach} {l : Int} (h : NMem w g cv wv kv m l) (j : Nat) : w.frozen? ⟨g, j, none⟩ = false := by
  simp only [World.frozen?, h.h]; simp
theorem NMem.keep {w w' : World} {g : Nat} {cv wv kv : Value} {m : Mach} {l : Int} {S : List Nat} (h : NMem w g cv wv kv m l) (ho : Only S w w') (hg : g ∉ S) : NMem w' g cv wv kv m l :=
  ⟨(ho.same g (block_lt h.h) hg).trans h.h⟩
theorem flags48 (g : Nat) (cv wv kv : Value) (m : Mach) (l v : Int) (w : World) (h : NMem w g cv wv kv m l) :
    Calls Try.prog 48 #[ptr g, .int .i64 v] w fun e w' => e = .returned (.int .i32 (IntKind.i32.wrap v)) ∧ NMem w' g cv wv kv (fl m v) l ∧ Only [g] w w' ∧ w'.heap.size = w.heap.size := by
  have c22 := h.cell 19 rfl
  have c23 := h.cell 20 rfl
  have c24 := h.cell 21 rfl
  have f22 := h.froz 19
  have f23 := h.froz 20
  have f24 := h.froz 21
  have H := Lib.hid h; clear h
  have hr := w32_rng v
  obtain ⟨x, hx⟩ : ∃ x, IntKind.i32.wrap v = x := ⟨_, rfl⟩
  have e1 : IntKind.i64.wrap x = x := by rw [← hx]; unfold I32 at hr; rw [IntKind.wrap_i64]; omega
  have hfl : fl m v = { m with Z := x == 0, S := decide (x < 0), O := x != v } := by
    unfold fl; rw [hx]
    congr 1
    rw [Bool.eq_iff_iff]; simp; exact ⟨fun h e => h e.symm, fun h e => h e.symm⟩
  rw [hfl, hx]
  have HX := Lib.hid hx
  clear hr hfl
  go_enter Try.func48, Try.ntmps48
  go_wp2_with fail
  go_ret
  refine ⟨rfl, ((H.out.set 19 (.bool (x == 0)) (m' := { m with Z := x == 0 }) (l' := l) rfl).set 20 (.bool (decide (x < 0))) (m' := { m with Z := x == 0, S := decide (x < 0) }) (l' := l) rfl).set 21 (.bool (x != v)) rfl, (((Only.refl _ _).set _ (by simp)).set _ (by simp)).set _ (by simp), by simp⟩
end Go.Proofs.Ytpcocfdgcihpdaa.rdw
