/-
  carafelaw22's plain: the spans, copied.
-/
import Derived.Test.YtkejnhmhbmbhcaaAlW
import Derived.Deep.AppendLies
import Derived.Deep.RegionHeldLaw
set_option maxHeartbeats 64000000
set_option maxRecDepth 1000000
set_option linter.unusedVariables false
set_option linter.unusedSimpArgs false
namespace Go.Proofs.Ytkejnhmhbmbhcaa.al
open Go Go.RowKit Go.BigFrame
open Go.Proofs.Ytkejnhmhbmbhcaa
theorem info58 : (Try.prog.info? 58).map (fun i => (i.zero, i.size, i.bytes)) = some (some (.agg #[.int .i64 0, .int .i64 0, .int .i64 0]), 3, 24) := by kernel_rfl
theorem own_spv' {w : World} {B n t : Nat} {v : Value} {s : AlScan.Sps} (h : w.ownsRow B t 3 v n (spl s n)) : SpV w v n s := by
  rcases h.2 with ⟨rfl, rfl⟩ | ⟨g, cap, cur, rfl, hx⟩
  · exact ⟨none, 0, rfl, fun h => absurd h (by omega)⟩
  · refine ⟨_, cap, rfl, fun h0 => ⟨g, 0, rfl, fun i hi => ?_, fun i hi => ?_, fun i hi => ?_⟩⟩
    · rw [Nat.zero_add, h.cellAt _ (by omega)]; exact (spl_at s n i hi).1
    · rw [Nat.zero_add, h.cellAt _ (by omega)]; exact (spl_at s n i hi).2.1
    · rw [Nat.zero_add, h.cellAt _ (by omega)]; exact (spl_at s n i hi).2.2
theorem plain9 (o : Option Addr) (N cap : Nat) (s : AlScan.Sps) (hN : N ≤ 1048576) (w : World) (h : 0 < N → ∃ bs off, o = some ⟨bs, off, none⟩ ∧ SpW w bs off N s) :
    Calls Try.prog 9 #[.slice o N cap] w fun e w' => Below w.heap.size w w' ∧ ∃ lv, SpV w' lv N s ∧ e = .returned lv := by
  obtain ⟨i58, hi58, hz0, hz1, hz2⟩ := info_parts info58
  have H := Lib.hid h
  clear h
  go_enter Try.func9, Try.ntmps9
  go_wp2_with fail
  go_loopw [3, 4] (fun v u wq => ∃ n : Nat, n ≤ N ∧ u = .int .i64 (n : Int) ∧ Hid (wq.ownsRow w.heap.size 58 3 v n (spl s n) ∧ Below w.heap.size w wq)) (fun _ u _ => N - (intOf u).toNat)
  case atStart => exact ⟨0, by omega, rfl, Lib.hid ⟨⟨rfl, .inl ⟨rfl, rfl⟩⟩, Below.refl _ _⟩⟩
  case round =>
    obtain ⟨n, hn, rfl, hM⟩ := hrel
    obtain ⟨hown, hb⟩ := hM.out
    by_cases hnN : n < N
    · have b1 : (n : Int) < (N : Int) := by omega
      obtain ⟨bs, off, rfl, hsw⟩ := H.out (by omega)
      have hbs : bs < w.heap.size := World.block_lt_of_cell? w ⟨bs, off + 0 * 3, none⟩ (hsw.v 0 (by omega))
      have hS := hsw.below hbs hb
      have cv := hS.v n hnN
      have cf := hS.f n hnN
      have ct := hS.t n hnN
      have hszb := hb.size
      have hbw : bs < wr.heap.size := by omega
      have hne : u3.ownBlock ≠ some bs := fun hc => by have := hown.lt bs hc; omega
      have HB := Lib.hid hb
      have hlt := hown.lt
      have HA := Lib.hid (show ∀ ob : Obj, (wr.alloc ob).drew.cell? ⟨bs, off + n * 3, none⟩ = some (.int .i64 (s.V n)) ∧ (wr.alloc ob).drew.cell? ⟨bs, off + n * 3 + 1, none⟩ = some (.int .i64 (s.F n)) ∧ (wr.alloc ob).drew.cell? ⟨bs, off + n * 3 + 2, none⟩ = some (.int .i64 (s.T n)) from fun ob =>
        ⟨(World.cell?_of_block (w' := (wr.alloc ob).drew) (a := ⟨bs, _, none⟩) (Below.heap_alloc wr ob bs hbw)).trans cv, (World.cell?_of_block (w' := (wr.alloc ob).drew) (a := ⟨bs, _, none⟩) (Below.heap_alloc wr ob bs hbw)).trans cf, (World.cell?_of_block (w' := (wr.alloc ob).drew) (a := ⟨bs, _, none⟩) (Below.heap_alloc wr ob bs hbw)).trans ct⟩)
      clear hM hb hS hsw
      go_wp2_with fail
      go_region_held_law (fun w' => w'.cell? ⟨bs, off + n * 3, none⟩ = some (.int .i64 (s.V n)) ∧ w'.cell? ⟨bs, off + n * 3 + 1, none⟩ = some (.int .i64 (s.F n)) ∧ w'.cell? ⟨bs, off + n * 3 + 2, none⟩ = some (.int .i64 (s.T n)))
        (first
          | exact HA.out _
          | go_keep
          | (go_split_ands
             refine ⟨?_, ?_, ?_⟩
             · (rw [hgrow.cell_far _ (by simp; omega) (Ne.symm hne)]; assumption)
             · (rw [hgrow.cell_far _ (by simp; omega) (Ne.symm hne)]; assumption)
             · (rw [hgrow.cell_far _ (by simp; omega) (Ne.symm hne)]; assumption)))
        ((refine step_append_lies _ (by rfl) _ _ 30 (by rfl) w.heap.size 58 i58 _ 3 24 Try.underlying30 hi58 hz0 hz1 hz2 rfl (by omega) u3 n (spl s n) (by rfl) ((hown.alloc _).drew)
            ⟨wr.heap.size, 0, none⟩ 1 1 [.int .i64 (s.V n), .int .i64 (s.F n), .int .i64 (s.T n)] (by rfl) (by rfl) (World.news_of_block (cs := #[.int .i64 (s.V n), .int .i64 (s.F n), .int .i64 (s.T n)]) (t := 58) (fr := (0, 0)) (heap_alloc_new wr _)) (by simp [Value.oneCell'])
            (by omega) (by unfold maxLen; omega) (by omega) (by simp; omega) (wr.heap.size + 1) (by simp) ?_; intro gg cp2 w2 hown2 hgrow hat hlt2))
      have hbel := (bel_drewN (HB.out.alloc hszb _) 1).grown hgrow (by simp; omega) (fun j hj => (hown.lt j hj).1)
      go_wp2_with fail
      exact ⟨⟨n + 1, hnN, by first | rfl | simp, Lib.hid ⟨hown2, hbel⟩⟩, by simp [intOf]; omega⟩
    · have b1 : ¬ (n : Int) < (N : Int) := by omega
      obtain rfl : N = n := by omega
      have HF := Lib.hid (And.intro hb (own_spv' hown))
      clear hM hb hown
      go_wp2_with fail
      go_ret
      exact ⟨HF.out.1, _, HF.out.2, rfl⟩
end Go.Proofs.Ytkejnhmhbmbhcaa.al
