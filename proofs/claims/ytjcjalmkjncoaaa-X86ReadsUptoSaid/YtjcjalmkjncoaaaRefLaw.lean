/-
  X86Reads: caraferef19.All, the small functions beside the readers, and the law: both readers read the same, for bytes of at most 1048576 elements.
-/
import Derived.Test.YtjcjalmkjncoaaaRefB
import Derived.Test.YtjcjalmkjncoaaaBkLaw
import Derived.Laws.CopyOwn
import Derived.Deep.OwnRows
import Derived.Laws.OwnMore
import Derived.Laws.AppendOwnNone
import Derived.Deep.RegionLaw
namespace Go.Proofs.Ytjcjalmkjncoaaa.rdw
open Go Go.RowKit
open Go.Proofs.Ytjcjalmkjncoaaa Go.Proofs.Ytjcjalmkjncoaaa.wr
set_option linter.unusedVariables false
set_option linter.unusedSimpArgs false
theorem info30 : (Try.prog.info? 30).map (fun i => (i.zero, i.size, i.bytes)) = some (some (.agg #[.int .i64 0, .int .i64 0, .int .i64 0, .int .i32 0]), 4, 32) := by kernel_rfl
theorem results21 : Try.f21.results = #[.tmp 2, .tmp 3, .tmp 4, .tmp 5] := by kernel_rfl
set_option maxRecDepth 1000000 in
theorem all21_nil (ad : Option Addr) (cap : Nat) (w : World) : Calls Try.prog 21 #[.slice ad 0 cap] w (AllPost [] 30 w) := by
  go_enter Try.func21, Try.ntmps21
  go_wp2
  go_loopw [6, 7, 8] (fun v u s wq => v = .slice none 0 0 ∧ u = .slice none 0 0 ∧ s = .int .i64 0 ∧ wq = w) (fun _ _ s _ => 0)
  case atStart => exact ⟨rfl, rfl, rfl, rfl⟩
  case round =>
    obtain ⟨rfl, rfl, rfl, rfl⟩ := hrel
    go_wp2_with fail
    refine bodyPost_ret (v := .tuple #[.slice none 0 0, .slice none 0 0, .int .i64 0, .int .i64 0]) (by simp [results, results21, go_sem]) rfl ⟨⟨[], [], 0, 0, _, _, .ok .none (Nat.le_refl _), rfl, World.ownsRow_nil _ _ _ _, World.ownsRow_nil _ _ _ _⟩, Below.refl _ _⟩
set_option maxHeartbeats 3200000 in
set_option maxRecDepth 1000000 in
theorem all21 (bb oo cap : Nat) (x : List Int) (w : World) (hL : x.length ≤ 100000) (hcap : x.length ≤ cap) (hL2 : cap ≤ 9223372036854775807) (hx : RD.isBytes x) (hr : Row w bb oo x) :
    Calls Try.prog 21 #[.slice (some ⟨bb, oo, none⟩) x.length cap] w (AllPost x 30 w) := by
  obtain ⟨i0, hi, hz0, hz1, hz2⟩ := info_parts info30
  obtain ⟨i1, hi', hz0', hz1', hz2'⟩ := info_parts info3
  have HX := Lib.hid hx; clear hx
  have HR := Lib.hid hr; clear hr
  go_enter Try.func21, Try.ntmps21
  go_wp2
  go_loopw [6, 7, 8] (fun v u s wq => ∃ (k : Nat) (l : List RD.Ins) (p : List Int), k ≤ x.length ∧ s = .int .i64 k ∧ Below w.heap.size w wq ∧ wq.ownsRow w.heap.size 30 4 v l.length (icells l) ∧ wq.ownsRow w.heap.size 3 1 u p.length (pcells p) ∧ Dis v u ∧ Hid (RD.Upto x k l p)) (fun _ _ s _ => x.length - (intOf s).toNat)
  case atStart => exact ⟨0, [], [], Nat.zero_le _, rfl, Below.refl _ _, World.ownsRow_nil _ _ _ _, World.ownsRow_nil _ _ _ _, Dis.nil _, Lib.hid .none⟩
  case round =>
    obtain ⟨k, l, p, hk, rfl, hbel, hv, hu, hdis, hup⟩ := hrel
    obtain ⟨_, hl1, hl2⟩ := hup.out.le
    by_cases hk1 : k < x.length
    · have C := decode20 bb oo cap k x wr hk1 hL hcap hL2 HX.out (HR.out.mono hbel)
      have HC := Lib.hid C; clear C
      go_wp2_with fail
      refine HC.out.mono ?_
      rintro e w1 ⟨⟨d, hd, he⟩, hb1⟩
      have hbel1 := hbel.trans (hb1.mono hbel.size)
      have hv1 := own_below hv hb1
      have hu1 := own_below hu hb1
      cases d with
      | ok op a b n len =>
        obtain ⟨p1, p2, p3⟩ := RD.len_pos hd
        rw [List.length_drop] at p2
        have HD := Lib.hid hd; clear hd
        simp only [decV] at he
        subst he
        have HDIS := Lib.hid hdis; clear hdis
        go_wp2_with (first
          | (at_builtin; refine wpList_append_own_at _ rfl _ _ 28 rfl w.heap.size 30 i0 (.agg #[.int .i64 0, .int .i64 0, .int .i64 0, .int .i32 0]) 4 32 Try.underlying28 hi hz0 hz1 hz2 rfl (by decide) _ _ _ rfl ((hv1.alloc _).alloc _) ⟨w1.heap.size + 1, 0, none⟩ 1 1 [.int .i64 (op : Int), .int .i64 a, .int .i64 b, .int .i32 n] rfl rfl (new4b _ _ _ _ _ _ _) (one4 _ _ _ _) (by unfold maxLen; omega) (by omega) (by have := hbel1.size; simp; omega) ?_; intro v2 w2 hv2 hgrow2 _ hob2; have hbel2 := ((hbel1.alloc hbel1.size _).alloc (by have := hbel1.size; simp; omega) _).grown hgrow2 (by have := hbel1.size; simp; omega) (fun j hj => (hv1.lt j hj).1); have hu2 := (((hu1.alloc _).alloc _).kept hgrow2 HDIS.out.ne); have HDIS2 := Lib.hid (HDIS.out.grow ((hu1.alloc _).alloc _) hob2); have hv2' := own_snoc (RD.Ins.mk op a b n) hv2; clear hv2 hgrow2 hob2)
          | (at_builtin; refine wpList_append_own_at _ rfl _ _ 22 rfl w.heap.size 3 i1 (.int .i64 0) 1 8 Try.underlying22 hi' hz0' hz1' hz2' rfl (by decide) _ _ _ rfl (hu2.alloc _) ⟨w2.heap.size, 0, none⟩ 1 1 [.int .i64 (k : Int)] rfl rfl (new1 _ _ _) (one1 _) (by unfold maxLen; omega) (by omega) (by have := hbel2.size; simp; omega) ?_; intro u3 w3 hu3 hgrow3 _ hob3; have hbel3 := (hbel2.alloc (by have := hbel2.size; omega) _).grown hgrow3 (by have := hbel2.size; simp; omega) (fun j hj => (hu2.lt j hj).1); have hv3 := ((hv2'.alloc _).kept hgrow3 HDIS2.out.symm.ne); have HDIS3 := Lib.hid (HDIS2.out.symm.grow (hv2'.alloc _) hob3).symm; have hu3' := own_psnoc (k : Int) hu3; clear hu3 hgrow3 hob3))
        have HUP := Lib.hid (RD.Upto.more hup.out hk1 HD.out)
        go_roundw
        case rel => exact ⟨k + len, _, _, by omega, by go_num, hbel3, hv3, hu3', HDIS3.out, HUP⟩
        case measure => simp [intOf]; omega
      | err er =>
        have her : er = 10 ∨ er = 12 := by
          cases hd
          · exact .inl rfl
          · exact .inr rfl
        have HD := Lib.hid hd; clear hd
        simp only [decV] at he
        subst he
        rcases her with rfl | rfl <;>
          (go_wp2_with fail
           refine bodyPost_ret (v := .tuple #[.slice none 0 0, .slice none 0 0, .int .i64 _, .int .i64 (k : Int)]) (by simp [results, results21, go_sem]) rfl ⟨⟨[], [], _, _, _, _, .err hup.out hk1 HD.out, rfl, World.ownsRow_nil _ _ _ _, World.ownsRow_nil _ _ _ _⟩, ?_⟩
           exact hbel1.alloc (by have := hbel1.size; omega) _)
    · obtain rfl : k = x.length := by omega
      go_wp2_with fail
      refine bodyPost_ret (v := .tuple #[_, _, .int .i64 0, .int .i64 0]) (by simp [results, results21, go_sem]) rfl ⟨⟨l, p, 0, 0, _, _, .ok hup.out (Nat.le_refl _), rfl, hv, hu⟩, hbel⟩
end Go.Proofs.Ytjcjalmkjncoaaa.rdw

namespace Go.Proofs.Ytjcjalmkjncoaaa.rdw
open Go Go.RowKit
open Go.Proofs.Ytjcjalmkjncoaaa Go.Proofs.Ytjcjalmkjncoaaa.wr
set_option linter.unusedVariables false
set_option linter.unusedSimpArgs false
theorem size5 : (Try.prog.info? 5).map (·.size) = some 1 := by kernel_rfl
def rc (x : List Int) (i j : Nat) : Int := if j < x.length then x.getD j 0 else if j < i then 165 else 0
def RoomC (x : List Int) (i : Nat) (L : List Value) : Prop := L.length = x.length + 80 ∧ ∀ j, j < x.length + 80 → L[j]? = some (.int .u8 (rc x i j))
theorem roomC_set {x : List Int} {i : Nat} {L : List Value} (h : RoomC x i L) (h1 : x.length ≤ i) (h2 : i < x.length + 80) : RoomC x (i + 1) (L.set i (.int .u8 165)) := by
  refine ⟨by simpa using h.1, fun j hj => ?_⟩
  by_cases e : i = j
  · subst e
    rw [List.getElem?_set_self (by rw [h.1]; omega)]
    unfold rc
    rw [if_neg (by omega), if_pos (by omega)]
  · rw [List.getElem?_set_ne e, h.2 j hj]
    unfold rc
    by_cases c1 : j < x.length
    · rw [if_pos c1, if_pos c1]
    · rw [if_neg c1, if_neg c1]
      by_cases c2 : j < i
      · rw [if_pos c2, if_pos (by omega)]
      · rw [if_neg c2, if_neg (by omega)]
theorem roomC_start (x : List Int) : RoomC x x.length (splice (madeCells #[.int .u8 0] (x.length + 80)).toList 0 (x.map (Value.int .u8))) := by
  rw [toList_madeCells_one]
  unfold splice
  simp only [List.take_zero, List.nil_append, List.length_map, Nat.zero_add, List.drop_replicate]
  rw [show x.length + 80 - x.length = 80 by omega]
  refine ⟨by simp, fun j hj => ?_⟩
  unfold rc
  by_cases c1 : j < x.length
  · rw [if_pos c1, List.getElem?_append_left (by simpa using c1), List.getElem?_map]
    simp [List.getD, c1]
  · rw [if_neg c1, if_neg c1, List.getElem?_append_right (by simp; omega), List.getElem?_replicate_of_lt (by simp; omega)]
def full (x : List Int) : List Int := x ++ List.replicate 80 165
theorem full_length (x : List Int) : (full x).length = x.length + 80 := by simp [full]
theorem full_get (x : List Int) (j : Nat) (h : j < x.length + 80) : (full x).getD j 0 = rc x (x.length + 80) j := by
  unfold full rc
  by_cases c1 : j < x.length
  · rw [if_pos c1]; simp [List.getD, List.getElem?_append_left c1]
  · rw [if_neg c1, if_pos h]; simp only [List.getD]; rw [List.getElem?_append_right (by omega), List.getElem?_replicate_of_lt (by omega)]; rfl
theorem make_rowL {P : Program} (w : World) {ops : Array Oper} {rest : List Oper} {o : Oper} {a : Act} {Q : Exit → Act → World → Prop}
    (hg : o.guard = none) (l c : Operand) (t : TypeId) (hop : o.op = Op.makeSlice t l c)
    (e : TypeId) (i : TypeInfo) (z : Value) (ht : P.underlying t = some (.slice e)) (hi : P.info? e = some i) (hz : i.zero = some z) (hsize : i.size = 1) (hz1 : z.cells = #[z])
    (kl kc : IntKind) (L : Int) (n : Nat) (hl : a.eval l = .int kl L) (hc : a.eval c = .int kc L) (hL : L = (n : Int)) (hbytes : i.bytes * n ≤ 281474976710656) (h63 : n ≤ 9223372036854775807)
    (hK : wpList P ops Q rest (a.put o.dst (.slice (some ⟨w.heap.size, 0, none⟩) n n)) (w.alloc (.cells (madeCells #[z] n) e))) :
    wpList P ops Q (o :: rest) a w := by
  subst hL
  exact wpList_make_row w hg l c t hop e i z ht hi hz hsize hz1 kl kc n hl hc hbytes h63 hK
theorem made_len (n : Nat) : (madeCells #[.int .u8 0] n).toList.length = n := by rw [toList_madeCells_one]; simp
theorem u8_one (x : List Int) : ∀ v ∈ x.map (Value.int .u8), v.oneCell' = true := by
  intro u hu; simp only [List.mem_map] at hu; obtain ⟨_, _, rfl⟩ := hu; rfl
theorem room_pos {w : World} {o : Obj} {ad : Option Addr} {n cap g m : Nat} {x : List Int} (h : Arr w ad n cap x) : 0 < (x.map (Value.int .u8)).length → some (⟨g, 0, none⟩ : Addr) = some ⟨g, 0, none⟩ ∧ ∃ a, ad = some a ∧ ∀ j v, (x.map (Value.int .u8))[j]? = some v → (w.alloc o).cell? (a.add j) = some v := by
  intro hp
  rw [List.length_map] at hp
  obtain ⟨h1, _, _, _, h5⟩ := h
  obtain ⟨b, off, rfl, hr⟩ := h5 (by omega)
  refine ⟨rfl, _, rfl, fun j v hj => ?_⟩
  rw [List.getElem?_map] at hj
  have hlt : j < x.length := by
    apply Nat.lt_of_not_le
    intro hge
    rw [List.getElem?_eq_none hge] at hj; cases hj
  have hb : x[j]? = some (x.getD j 0) := by simp [List.getD, hlt]
  rw [hb] at hj
  injection hj with hj
  subst hj
  have hbel : Below w.heap.size w (w.alloc o) := (Below.refl _ _).alloc (Nat.le_refl _) _
  rw [Go.WideShapes.add_plain]
  exact (hbel.cell hr.1).trans (hr.2 j hlt)
set_option maxHeartbeats 1600000 in
set_option maxRecDepth 1000000 in
theorem roomy19 (ad : Option Addr) (n cap : Nat) (x : List Int) (w : World) (hA : Arr w ad n cap x) (hn : n ≤ 80) :
    Calls Try.prog 19 #[.slice ad n cap, .int .u8 165] w fun e w' => ∃ g : Nat, e = .returned (.slice (some ⟨g, 0, none⟩) (n + 80) (n + 80)) ∧ w.heap.size ≤ g ∧ Hid (Row w' g 0 (full x)) ∧ Below w.heap.size w w' := by
  obtain ⟨i0, hi, hz0, hz1, hz2⟩ := info_parts info5
  have HA := Lib.hid hA
  have hxl : x.length = n := hA.1
  clear hA
  go_enter Try.func19, Try.ntmps19
  go_wp2_with (first
    | (at_make; refine make_rowL _ rfl _ _ 33 rfl 5 i0 (.int .u8 0) Try.underlying33 hi hz0 hz1 rfl .i64 .i64 _ (n + 80) rfl rfl (by simp) (by rw [hz2]; omega) (by omega) ?_)
    | (refine wpList_copy_splice rfl _ _ 33 33 rfl 5 Try.underlying33 size5 _ _ _ _ _ _ rfl rfl w.heap.size 0 (madeCells #[.int .u8 0] (n + 80)).toList 5 (by rw [Array.toArray_toList]; exact heap_alloc_new _ _) (x.map (Value.int .u8)) (by rw [List.length_map, hxl]; exact (Nat.min_eq_left (by omega)).symm) (room_pos (m := 0) HA.out) (by rw [made_len, List.length_map]; omega) (u8_one x) w.heap.size w ((Below.refl _ _).alloc (Nat.le_refl _) _) (Nat.le_refl _) ?_; intro w2 HG2 hB2))
  go_loopw [6] (fun s wq => ∃ (i : Nat) (L : List Value), n ≤ i ∧ i ≤ n + 80 ∧ s = .int .i64 i ∧ Below w.heap.size w wq ∧ Hid (wq.heap[w.heap.size]? = some (.cells L.toArray 5 (0, 0))) ∧ Hid (RoomC x i L)) (fun s _ => n + 80 - (intOf s).toNat)
  case atStart => exact ⟨n, _, Nat.le_refl _, by omega, rfl, hB2, HG2, Lib.hid (by subst hxl; exact roomC_start x)⟩
  case round =>
    obtain ⟨i, L, h1, h2, rfl, hbel, hg, hC⟩ := hrel
    by_cases hi : i < n + 80
    · have hid : decide ((i : Int) < (n : Int) + 80) = true := by simp; omega
      have hg1 := hg.out
      have hc : wr.cell? ⟨w.heap.size, i, none⟩ = some (.int .u8 (rc x i i)) := by
        have := hC.out.2 i (by omega)
        simpa [World.cell?, hg1] using this
      have hf : wr.frozen? ⟨w.heap.size, i, none⟩ = false := by simp [World.frozen?, hg1]
      have HG1 := Lib.hid hg1; clear hg1
      go_wp2_with fail
      go_roundw
      case rel => exact ⟨i + 1, L.set i (.int .u8 165), by omega, by omega, by go_num, hbel.setCell (Nat.le_refl _) _, Lib.hid (by rw [setCell_self, hg.out]; simp [setObj]), Lib.hid (roomC_set hC.out (by omega) (by omega))⟩
      case measure => simp [intOf]; omega
    · obtain rfl : i = n + 80 := by omega
      have hid : decide ((n : Int) + 80 < (n : Int) + 80) = false := by simp
      have hlt := block_lt hg.out
      go_wp2_with fail
      go_ret
      refine ⟨w.heap.size, rfl, Nat.le_refl _, Lib.hid ⟨hlt, fun j hj => ?_⟩, hbel⟩
      rw [full_length] at hj
      rw [full_get x j hj, Nat.zero_add]
      have hg1 := hg.out
      have := hC.out.2 j hj
      rw [hxl]
      simpa [World.cell?, hg1] using this
def IntsAt (w : World) (ad : Option Addr) (n : Nat) (P : Nat → Int) : Prop := ∀ i, i < n → ∃ b off, ad = some ⟨b, off, none⟩ ∧ b < w.heap.size ∧ w.cell? ⟨b, off + i, none⟩ = some (.int .i64 (P i))
def BytesAt (w : World) (ad : Option Addr) (n : Nat) (P : Nat → Int) : Prop := ∀ i, i < n → ∃ b off, ad = some ⟨b, off, none⟩ ∧ b < w.heap.size ∧ w.cell? ⟨b, off + i, none⟩ = some (.int .u8 (P i))
theorem Arr.bytesAt {w : World} {ad : Option Addr} {n cap : Nat} {x : List Int} (h : Arr w ad n cap x) : BytesAt w ad n (fun i => x.getD i 0) := by
  intro i hi
  obtain ⟨h1, _, _, _, h5⟩ := h
  obtain ⟨b, off, e, hr⟩ := h5 (by omega)
  exact ⟨b, off, e, hr.1, hr.2 i (by omega)⟩
set_option maxHeartbeats 1600000 in
set_option maxRecDepth 1000000 in
theorem same22 (ad1 ad2 : Option Addr) (n c1 c2 : Nat) (P : Nat → Int) (w : World) (hn : n ≤ 1000) (h1 : IntsAt w ad1 n P) (h2 : IntsAt w ad2 n P) :
    Calls Try.prog 22 #[.slice ad1 n c1, .slice ad2 n c2] w fun e w' => e = .returned (.bool true) ∧ ∃ j, w' = w.drewN j := by
  have H1 := Lib.hid h1; clear h1
  have H2 := Lib.hid h2; clear h2
  go_enter Try.func22, Try.ntmps22
  go_wp2
  go_loopw [5] (fun s wq => ∃ i j : Nat, i ≤ n ∧ s = .int .i64 i ∧ wq = w.drewN j) (fun s _ => n - (intOf s).toNat)
  case atStart => exact ⟨0, 0, Nat.zero_le _, rfl, rfl⟩
  case round =>
    obtain ⟨i, j, hi, rfl, rfl⟩ := hrel
    by_cases hi1 : i < n
    · obtain ⟨b, off, rfl, hb, a0⟩ := H1.out i hi1
      obtain ⟨b', off', rfl, hb', d0⟩ := H2.out i hi1
      go_wp2_with fail
      go_quiet (fail)
      go_wp2_with fail
      go_roundw
      case rel => exact ⟨i + 1, _, by omega, by go_num, rfl⟩
      case measure => simp [intOf]; omega
    · obtain rfl : i = n := by omega
      go_wp2_with fail
      go_ret
      exact ⟨rfl, _, rfl⟩
set_option maxHeartbeats 1600000 in
set_option maxRecDepth 1000000 in
theorem same35 (ad1 ad2 : Option Addr) (n c1 c2 : Nat) (P : Nat → Int) (w : World) (hn : n ≤ 1000) (h1 : BytesAt w ad1 n P) (h2 : BytesAt w ad2 n P) :
    Calls Try.prog 35 #[.slice ad1 n c1, .slice ad2 n c2] w fun e w' => e = .returned (.bool true) ∧ ∃ j, w' = w.drewN j := by
  have H1 := Lib.hid h1; clear h1
  have H2 := Lib.hid h2; clear h2
  go_enter Try.func35, Try.ntmps35
  go_wp2
  go_loopw [5] (fun s wq => ∃ i j : Nat, i ≤ n ∧ s = .int .i64 i ∧ wq = w.drewN j) (fun s _ => n - (intOf s).toNat)
  case atStart => exact ⟨0, 0, Nat.zero_le _, rfl, rfl⟩
  case round =>
    obtain ⟨i, j, hi, rfl, rfl⟩ := hrel
    by_cases hi1 : i < n
    · obtain ⟨b, off, rfl, hb, a0⟩ := H1.out i hi1
      obtain ⟨b', off', rfl, hb', d0⟩ := H2.out i hi1
      go_wp2_with fail
      go_quiet (fail)
      go_wp2_with fail
      go_roundw
      case rel => exact ⟨i + 1, _, by omega, by go_num, rfl⟩
      case measure => simp [intOf]; omega
    · obtain rfl : i = n := by omega
      go_wp2_with fail
      go_ret
      exact ⟨rfl, _, rfl⟩
theorem full_at (x : List Int) (i : Nat) (h : i < x.length) : (full x).getD i 0 = x.getD i 0 := by
  rw [full_get x i (by omega)]; unfold rc; rw [if_pos h]
theorem full_end (x : List Int) (i : Nat) (h : x.length ≤ i) (h2 : i < x.length + 80) : (full x).getD i 0 = 165 := by
  rw [full_get x i h2]; unfold rc; rw [if_neg (by omega), if_pos h2]
set_option maxHeartbeats 1600000 in
set_option maxRecDepth 1000000 in
theorem intact23 (g : Nat) (ad : Option Addr) (n cap : Nat) (x : List Int) (w : World) (hF : Row w g 0 (full x)) (hA : Arr w ad n cap x) (hn : n ≤ 80) :
    Calls Try.prog 23 #[.slice (some ⟨g, 0, none⟩) (n + 80) (n + 80), .slice ad n cap, .int .u8 165] w fun e w' => e = .returned (.bool true) ∧ ∃ j, w' = w.drewN j := by
  have hxl : x.length = n := hA.1
  have hB1 : BytesAt w (some ⟨g, 0, none⟩) n (fun i => x.getD i 0) := fun i hi => ⟨g, 0, rfl, hF.1, by have := hF.2 i (by rw [full_length]; omega); rwa [full_at x i (by omega)] at this⟩
  have hB2 := hA.bytesAt
  have HB1 := Lib.hid hB1; clear hB1
  have HB2 := Lib.hid hB2; clear hB2
  have HF := Lib.hid hF; clear hF
  clear hA
  go_enter Try.func23, Try.ntmps23
  go_wp2_with (go_at_call 35; refine (same35 _ _ n _ _ (fun i => x.getD i 0) w (by omega) HB1.out HB2.out).mono ?_; rintro e w1 ⟨rfl, j1, rfl⟩)
  go_loopw [7] (fun s wq => ∃ i j : Nat, n ≤ i ∧ i ≤ n + 80 ∧ s = .int .i64 i ∧ wq = w.drewN j) (fun s _ => n + 80 - (intOf s).toNat)
  case atStart => exact ⟨n, _, Nat.le_refl _, by omega, rfl, rfl⟩
  case round =>
    obtain ⟨i, j, hi0, hi, rfl, rfl⟩ := hrel
    by_cases hi1 : i < n + 80
    · have hid : decide ((i : Int) < (n : Int) + 80) = true := by simp; omega
      have hc : w.cell? ⟨g, i, none⟩ = some (.int .u8 165) := by
        have := HF.out.2 i (by rw [full_length]; omega)
        rw [full_end x i (by omega) (by omega)] at this
        simpa using this
      go_wp2_with fail
      go_roundw
      case rel => exact ⟨i + 1, _, by omega, by omega, by go_num, rfl⟩
      case measure => simp [intOf]; omega
    · obtain rfl : i = n + 80 := by omega
      have hid : decide ((n : Int) + 80 < (n : Int) + 80) = false := by simp
      go_wp2_with fail
      go_ret
      exact ⟨rfl, _, rfl⟩
theorem results16 : Try.f16.results = #[.cell 2 32] := by kernel_rfl
theorem results11 : Try.f11.results = #[.cell 2 30] := by kernel_rfl
theorem cellsT {w : World} {g t : Nat} {a b c d : Value} (h : w.heap[g]? = some (.cells #[a, b, c, d] t (0, 0))) : w.cell? ⟨g, 0, none⟩ = some a ∧ w.cell? ⟨g, 1, none⟩ = some b ∧ w.cell? ⟨g, 2, none⟩ = some c ∧ w.cell? ⟨g, 3, none⟩ = some d := by
  simp [World.cell?, h]
set_option maxHeartbeats 1600000 in
set_option maxRecDepth 1000000 in
theorem out16 (a b c d : Int) (w : World) : Calls Try.prog 16 #[.agg #[.int .i64 a, .int .i64 b, .int .i64 c, .int .i32 d]] w fun e w' => e = .returned (.agg #[.int .i64 a, .int .i64 b, .int .i64 c, .int .i32 d]) ∧ Below w.heap.size w w' := by
  obtain ⟨g0, g1, g2, g3⟩ := cellsT (alloc2_new w (Obj.cells #[.int .i64 a, .int .i64 b, .int .i64 c, .int .i32 d] 30) (Obj.cells #[.int .i64 a, .int .i64 b, .int .i64 c, .int .i32 d] 32))
  have HG := Lib.hid (And.intro g0 (And.intro g1 (And.intro g2 g3))); clear g0 g1 g2 g3
  go_enter Try.func16, Try.ntmps16
  go_wp2_with fail
  obtain ⟨g0, g1, g2, g3⟩ := HG.out
  exact bodyPost_ret (v := .agg #[.int .i64 a, .int .i64 b, .int .i64 c, .int .i32 d]) (by simp [results, results16, go_sem, g0, g1, g2, g3]) rfl ⟨rfl, ((Below.refl _ _).alloc (Nat.le_refl _) _).alloc (by simp) _⟩
set_option maxHeartbeats 1600000 in
set_option maxRecDepth 1000000 in
theorem in11 (a b c d : Int) (w : World) : Calls Try.prog 11 #[.agg #[.int .i64 a, .int .i64 b, .int .i64 c, .int .i32 d]] w fun e w' => e = .returned (.agg #[.int .i64 a, .int .i64 b, .int .i64 c, .int .i32 d]) ∧ Below w.heap.size w w' := by
  obtain ⟨g0, g1, g2, g3⟩ := cellsT (alloc2_new w (Obj.cells #[.int .i64 a, .int .i64 b, .int .i64 c, .int .i32 d] 32) (Obj.cells #[.int .i64 a, .int .i64 b, .int .i64 c, .int .i32 d] 30))
  have HG := Lib.hid (And.intro g0 (And.intro g1 (And.intro g2 g3))); clear g0 g1 g2 g3
  go_enter Try.func11, Try.ntmps11
  go_wp2_with fail
  obtain ⟨g0, g1, g2, g3⟩ := HG.out
  exact bodyPost_ret (v := .agg #[.int .i64 a, .int .i64 b, .int .i64 c, .int .i32 d]) (by simp [results, results11, go_sem, g0, g1, g2, g3]) rfl ⟨rfl, ((Below.refl _ _).alloc (Nat.le_refl _) _).alloc (by simp) _⟩
end Go.Proofs.Ytjcjalmkjncoaaa.rdw

namespace Go.Proofs.Ytjcjalmkjncoaaa.rdw
open Go Go.RowKit
open Go.Proofs.Ytjcjalmkjncoaaa Go.Proofs.Ytjcjalmkjncoaaa.wr Go.Proofs.Ytjcjalmkjncoaaa.x86enc
set_option linter.unusedVariables false
set_option linter.unusedSimpArgs false
def DecAt (x : List Int) (at_ : Int) (d : RD.Dec) : Prop := (0 ≤ at_ ∧ at_ < (x.length : Int) ∧ RD.Reads (x.drop at_.toNat) d) ∨ ((at_ < 0 ∨ (x.length : Int) ≤ at_) ∧ d = .err 1)
theorem DecAt.unique {x : List Int} {at_ : Int} {d d' : RD.Dec} (h : DecAt x at_ d) (h' : DecAt x at_ d') : d = d' := by
  rcases h with ⟨h1, h2, h3⟩ | ⟨h1, rfl⟩ <;> rcases h' with ⟨q1, q2, q3⟩ | ⟨q1, rfl⟩
  · exact h3.unique q3
  · omega
  · omega
  · rfl
theorem decV_shape (d : RD.Dec) : ∃ o a b n len er : Int, decV d = .tuple #[.agg #[.int .i64 o, .int .i64 a, .int .i64 b, .int .i32 n], .int .i64 len, .int .i64 er] := by
  cases d with
  | ok op a b n len => exact ⟨_, _, _, _, _, _, rfl⟩
  | err e => exact ⟨_, _, _, _, _, _, rfl⟩
set_option maxHeartbeats 1600000 in
set_option maxRecDepth 1000000 in
theorem decode20_out (ad : Option Addr) (n cap : Nat) (at_ : Int) (w : World) (h : at_ < 0 ∨ (n : Int) ≤ at_) (hn : n ≤ 9223372036854775807) :
    Calls Try.prog 20 #[.slice ad n cap, .int .i64 at_] w fun e w' => e = .returned (decV (.err 1)) ∧ Below w.heap.size w w' := by
  have zz : ((w.alloc (.cells #[.int .i64 0, .int .i64 0, .int .i64 0, .int .i32 0] 30)).heap[w.heap.size]? = some Z30) := heap_alloc_new _ _
  obtain ⟨g0, g1, g2, g3⟩ := cells30 (fin30 zz (.int .i64 0) (.int .i64 0) (.int .i64 0) (.int .i32 0))
  by_cases h1 : at_ < 0
  · go_enter Try.func20, Try.ntmps20
    go_wp2_with fail
    refine bodyPost_ret (v := decV (.err 1)) (by simp [decV, results, results20, go_sem, g0, g1, g2, g3]) rfl ⟨rfl, ?_⟩
    first | exact (Below.refl _ _).alloc (Nat.le_refl _) _ | exact (((((Below.refl _ _).alloc (Nat.le_refl _) _).setCell (Nat.le_refl _) _).setCell (Nat.le_refl _) _).setCell (Nat.le_refl _) _).setCell (Nat.le_refl _) _
  · have h2 : (n : Int) ≤ at_ := by omega
    have h1d : decide (at_ < 0) = false := by simp; omega
    go_enter Try.func20, Try.ntmps20
    go_wp2_with fail
    refine bodyPost_ret (v := decV (.err 1)) (by simp [decV, results, results20, go_sem, g0, g1, g2, g3]) rfl ⟨rfl, ?_⟩
    first | exact (Below.refl _ _).alloc (Nat.le_refl _) _ | exact (((((Below.refl _ _).alloc (Nat.le_refl _) _).setCell (Nat.le_refl _) _).setCell (Nat.le_refl _) _).setCell (Nat.le_refl _) _).setCell (Nat.le_refl _) _
theorem Arr.row {w : World} {ad : Option Addr} {n cap : Nat} {x : List Int} (h : Arr w ad n cap x) (hn : 0 < n) : ∃ b off, ad = some ⟨b, off, none⟩ ∧ Row w b off x := h.2.2.2.2 hn
theorem dec17F (ad : Option Addr) (n cap : Nat) (at_ : Int) (x : List Int) (w : World) (h : Arr w ad n cap x) :
    Calls Try.prog 17 #[.slice ad n cap, .int .i64 at_] w fun e w' => ∃ d, DecAt x at_ d ∧ e = .returned (decV d) ∧ Below w.heap.size w w' := by
  have h0 := h
  obtain ⟨h1, h2, h3, h4, h5⟩ := h
  by_cases hn : 0 ≤ at_ ∧ at_ < (n : Int)
  · obtain ⟨b, off, rfl, hr⟩ := h5 (by omega)
    subst h1
    have := decode17 b off cap at_.toNat x w (by omega) h2 h3 h4 hr
    rw [Int.toNat_of_nonneg hn.1] at this
    refine this.mono fun e w' hh => ?_
    obtain ⟨⟨d, hd, he⟩, hb⟩ := hh
    exact ⟨d, .inl ⟨hn.1, hn.2, hd⟩, he, hb⟩
  · exact (decode17_out ad n cap at_ w (by omega) (by omega)).mono fun e w' hh => ⟨_, .inr ⟨by rw [h1]; omega, rfl⟩, hh.1, hh.2⟩
theorem dec20F (ad : Option Addr) (n cap : Nat) (at_ : Int) (x : List Int) (w : World) (h : Arr w ad n cap x) (h80 : n ≤ 80) :
    Calls Try.prog 20 #[.slice ad n cap, .int .i64 at_] w fun e w' => ∃ d, DecAt x at_ d ∧ e = .returned (decV d) ∧ Below w.heap.size w w' := by
  have h0 := h
  obtain ⟨h1, h2, h3, h4, h5⟩ := h
  by_cases hn : 0 ≤ at_ ∧ at_ < (n : Int)
  · obtain ⟨b, off, rfl, hr⟩ := h5 (by omega)
    subst h1
    have := decode20 b off cap at_.toNat x w (by omega) (by omega) h2 h3 h4 hr
    rw [Int.toNat_of_nonneg hn.1] at this
    refine this.mono fun e w' hh => ?_
    obtain ⟨⟨d, hd, he⟩, hb⟩ := hh
    exact ⟨d, .inl ⟨hn.1, hn.2, hd⟩, he, hb⟩
  · exact (decode20_out ad n cap at_ w (by omega) (by omega)).mono fun e w' hh => ⟨_, .inr ⟨by rw [h1]; omega, rfl⟩, hh.1, hh.2⟩
theorem all18F (ad : Option Addr) (n cap : Nat) (x : List Int) (w : World) (h : Arr w ad n cap x) (h80 : n ≤ 80) : Calls Try.prog 18 #[.slice ad n cap] w (AllPost x 32 w) := by
  obtain ⟨h1, h2, h3, h4, h5⟩ := h
  by_cases hn : 0 < n
  · obtain ⟨b, off, rfl, hr⟩ := h5 hn
    subst h1
    exact all18 b off cap x w (by omega) h2 h3 h4 hr
  · obtain rfl : n = 0 := by omega
    obtain rfl : x = [] := List.length_eq_zero_iff.1 h1
    exact all18_nil ad cap w
theorem all21F (ad : Option Addr) (n cap : Nat) (x : List Int) (w : World) (h : Arr w ad n cap x) (h80 : n ≤ 80) : Calls Try.prog 21 #[.slice ad n cap] w (AllPost x 30 w) := by
  obtain ⟨h1, h2, h3, h4, h5⟩ := h
  by_cases hn : 0 < n
  · obtain ⟨b, off, rfl, hr⟩ := h5 hn
    subst h1
    exact all21 b off cap x w (by omega) h2 h3 h4 hr
  · obtain rfl : n = 0 := by omega
    obtain rfl : x = [] := List.length_eq_zero_iff.1 h1
    exact all21_nil ad cap w
/-- all of them, the rows opened -/
theorem allOf_le {x : List Int} {l : List RD.Ins} {p : List Int} {er k : Int} (h : RD.AllOf x l p er k) : l.length ≤ x.length ∧ p.length = l.length := by
  cases h with
  | ok h hk => have := h.le; omega
  | err h hk hd => exact ⟨by simp, rfl⟩
theorem own_ints {w : World} {base e : Nat} {u : Value} {p : List Int} (h : w.ownsRow base e 1 u p.length (pcells p)) : ∃ ad cap, u = .slice ad p.length cap ∧ IntsAt w ad p.length (fun i => p.getD i 0) := by
  have h0 := h
  have hlt := h.lt
  obtain ⟨h1, h2⟩ := h
  rcases h2 with ⟨hv, hn⟩ | ⟨g, cap, cur, rfl, hg, hh, hn, hcap, hsz, htake⟩
  · rw [hn]; exact ⟨none, 0, hv, fun i hi => by omega⟩
  · refine ⟨_, cap, rfl, fun i hi => ⟨g, 0, rfl, (hlt g rfl).2, ?_⟩⟩
    rw [Nat.zero_add]
    refine (h0.cellAt _ (by omega)).trans ?_
    simp [pcells, List.getD, hi]
def AllF (x : List Int) (w : World) (e : Ending) (w' : World) : Prop :=
  ∃ (l : List RD.Ins) (p : List Int) (er k : Int) (vad uad : Option Addr) (vc uc : Nat), RD.AllOf x l p er k ∧ e = .returned (.tuple #[.slice vad l.length vc, .slice uad p.length uc, .int .i64 er, .int .i64 k]) ∧ Ins w' w'.heap.size vad l.length (fO l) (fA l) (fX l) (fM l) ∧ IntsAt w' uad p.length (fun i => p.getD i 0) ∧ Below w.heap.size w w'
theorem allF {x : List Int} {el : Nat} {w : World} {e : Ending} {w' : World} (h : AllPost x el w e w') : AllF x w e w' := by
  obtain ⟨⟨l, p, er, k, v, u, ha, he, hv, hu⟩, hb⟩ := h
  obtain ⟨vad, vc, rfl, hv2⟩ := own_insL hv
  obtain ⟨uad, uc, rfl, hu2⟩ := own_ints hu
  exact ⟨l, p, er, k, vad, uad, vc, uc, ha, he, hv2, hu2, hb⟩
theorem IntsAt.mono {w w' : World} {ad : Option Addr} {n : Nat} {P : Nat → Int} (h : IntsAt w ad n P) (hb : Below w.heap.size w w') : IntsAt w' ad n P := by
  intro i hi
  obtain ⟨b, off, e, hlt, hc⟩ := h i hi
  exact ⟨b, off, e, Nat.lt_of_lt_of_le hlt hb.size, (hb.cell hlt).trans hc⟩
/-- an empty row that is not nil -/
theorem own_empty (w : World) (B : Nat) (hB : B ≤ w.heap.size) : (w.alloc (.cells #[] 5)).ownsRow B 5 1 (.slice (some ⟨w.heap.size, 0, none⟩) 0 0) 0 [] := by
  refine ⟨by simp, .inr ⟨w.heap.size, 0, #[], rfl, hB, heap_alloc_new _ _, Nat.le_refl _, by simp, by simp, by simp⟩⟩
theorem src_bytes {w : World} {blk base : Nat} {bs : List Int} (h : ∀ j, j < bs.length → w.cell? ⟨blk, base + j, none⟩ = some (.int .u8 (bs.getD j 0))) : ∀ j u, (u8s bs)[j]? = some u → w.cell? ((⟨blk, base, none⟩ : Addr).add j) = some u := by
  intro j u hj
  rw [u8s, List.getElem?_map] at hj
  rw [Go.WideShapes.add_plain]
  by_cases hlt : j < bs.length
  · rw [h j hlt]
    have hbj : bs[j]? = some (bs.getD j 0) := by simp [List.getD, hlt]
    rw [hbj] at hj
    exact hj
  · have hbj : bs[j]? = none := by simp; omega
    rw [hbj] at hj; cases hj
theorem src_arr {w : World} {a : Addr} {n cap : Nat} {x : List Int} (h : Arr w (some a) n cap x) : ∀ j u, (u8s x)[j]? = some u → w.cell? (a.add j) = some u := by
  obtain ⟨h1, _, _, _, h5⟩ := h
  intro j u hj
  have hlt : j < x.length := by
    apply Nat.lt_of_not_le
    intro hge
    have hbj : (u8s x)[j]? = none := by simp [u8s]; omega
    rw [hbj] at hj; cases hj
  obtain ⟨b, off, e, hr⟩ := h5 (by omega)
  injection e with e
  subst e
  exact src_bytes hr.2 j u hj
theorem one_u8s (bs : List Int) : ∀ u ∈ u8s bs, u.oneCell' = true := by
  intro u hu; simp only [u8s, List.mem_map] at hu; obtain ⟨_, _, rfl⟩ := hu; rfl
def B6 (wq : World) (ad : Option Addr) (n cap : Nat) (x : List Int) : Prop := Arr wq ad n cap x ∧ (ad = none → n = 0 ∧ cap = 0)
theorem B6.mono {w w' : World} {ad : Option Addr} {n cap : Nat} {x : List Int} (h : B6 w ad n cap x) (hb : Below w.heap.size w w') : B6 w' ad n cap x := ⟨h.1.mono hb, h.2⟩
theorem b6_own {w : World} {base N : Nat} {v : Value} {bs x : List Int} {xs : List Value} (h : w.ownsRow base 5 1 v N xs) (hxs : xs = u8s (bs ++ x)) (hN : N = (bs ++ x).length) (hne : bs ≠ []) (h1 : RD.isBytes bs) (h2 : RD.isBytes x) : ∃ g cap, v = .slice (some ⟨g, 0, none⟩) N cap ∧ B6 w (some ⟨g, 0, none⟩) N cap (bs ++ x) := by
  subst hxs hN
  obtain ⟨g, cap, rfl, q1, q2, q3⟩ := own_row (n := 0) h (by simp [hne])
  refine ⟨g, cap, rfl, ⟨rfl, q1, q2, ?_, fun _ => ⟨g, 0, rfl, q3⟩⟩, fun e => by cases e⟩
  intro v hv
  rcases List.mem_append.1 hv with h | h
  · exact h1 v h
  · exact h2 v h
theorem b6_take {w : World} {ad : Option Addr} {n cap : Nat} {x : List Int} (h : B6 w ad n cap x) (hn : 80 ≤ n) : B6 w ad 80 cap (x.take 80) := by
  obtain ⟨⟨h1, h2, h3, h4, h5⟩, h6⟩ := h
  refine ⟨⟨by simp; omega, by omega, h3, fun v hv => h4 v (List.mem_of_mem_take hv), fun _ => ?_⟩, fun e => by have := h6 e; omega⟩
  obtain ⟨b, off, e, hr⟩ := h5 (by omega)
  refine ⟨b, off, e, hr.1, fun j hj => ?_⟩
  simp only [List.length_take] at hj
  rw [hr.2 j (by omega)]
  simp only [List.getD, List.getElem?_take]
  rw [if_pos (by omega)]
theorem arr_full {w : World} {g n : Nat} {x : List Int} (h : Row w g 0 (full x)) (hx : RD.isBytes x) (hl : x.length = n) (h80 : n ≤ 80) : Arr w (some ⟨g, 0, none⟩) n (n + 80) x := by
  refine ⟨hl, by omega, by omega, hx, fun hn => ⟨g, 0, rfl, h.1, fun j hj => ?_⟩⟩
  have := h.2 j (by rw [full_length]; omega)
  rwa [full_at x j hj] at this
theorem boxT {w w1 : World} {a b c d : Value} {t : TypeId} (hb : Below (w.alloc (.cells #[a, b, c, d] t)).heap.size (w.alloc (.cells #[a, b, c, d] t)) w1) : w1.heap[w.heap.size]? = some (.cells #[a, b, c, d] t (0, 0)) :=
  (hb.block _ (by simp)).trans (heap_alloc_new w _)
/-- a region that draws its order, whose callees leave the older memory alone: in the order of the text -/
theorem region_below {P : Program} {id : Nat} {Q : Exit → Act → World → Prop} {a : Act} {w : World} {l : List Oper} (w0 : World) (hm : P.follows .mixedOrders = true) (hB : Region.lexB .any l.toArray = true) (hC : Below w0.heap.size w0 w)
    (h : wpQuiet P l.toArray (fun w' => Below w0.heap.size w0 w') (fun a' => ∀ w', Below w0.heap.size w0 w' → Q .normal a' w') l a) : (Code.region id l.toArray true).wp P Q a w :=
  wp_region_quiet (C := fun w' => Below w0.heap.size w0 w') hm hB ⟨hC.os, hC.tape, hC.output, hC.size, hC.block⟩ (by simpa using h)
theorem enc13Y (op a b n : Int) (bs : List Int) (hE : encE op a b n = 0) (hbs : encB op a b n = bs) (hne : bs ≠ []) (w : World) : Calls Try.prog 13 #[.agg #[.int .i64 op, .int .i64 a, .int .i64 b, .int .i32 n]] w fun e w' =>
    ∃ blk base cp : Nat, e = .returned (.tuple #[.slice (some ⟨blk, base, none⟩) bs.length cp, .int .i64 0]) ∧ blk < w'.heap.size ∧ Hid (∀ j, j < bs.length → w'.cell? ⟨blk, base + j, none⟩ = some (.int .u8 (bs.getD j 0))) ∧ Below w.heap.size w w' := by
  refine (enc13C op a b n w).mono fun e w' h => ?_
  obtain ⟨v, rfl, hby, hb⟩ := h
  rw [hbs] at hby
  obtain ⟨blk, base, cp, rfl, h2, h3, h4⟩ := (hby.resolve_left (fun h => hne h.1)).2
  exact ⟨blk, base, cp, by rw [hE], h3, Lib.hid h4, hb⟩
theorem enc13N (op a b n : Int) (E : Int) (hE : encE op a b n = E) (w : World) : Calls Try.prog 13 #[.agg #[.int .i64 op, .int .i64 a, .int .i64 b, .int .i32 n]] w fun e w' =>
    ∃ v : Value, e = .returned (.tuple #[v, .int .i64 E]) ∧ Below w.heap.size w w' := by
  refine (enc13C op a b n w).mono fun e w' h => ?_
  obtain ⟨v, rfl, hby, hb⟩ := h
  exact ⟨v, by rw [hE], hb⟩
theorem fit_bytes {op a b n : Int} (h : encE op a b n = 0) (hn : I32 n) : RD.isBytes (encB op a b n) := by
  obtain ⟨k, rfl, hf⟩ := fit_of h hn
  rw [(enc_yes k hf.1 hf.2.1 a b n hf.2.2).2]
  exact enc_bytes hf.1 hf.2.1 hf.2.2
end Go.Proofs.Ytjcjalmkjncoaaa.rdw

namespace Go.Proofs.Ytjcjalmkjncoaaa.rdw
open Go Go.RowKit Go.BigFrame
open Go.Proofs.Ytjcjalmkjncoaaa Go.Proofs.Ytjcjalmkjncoaaa.wr Go.Proofs.Ytjcjalmkjncoaaa.x86enc
set_option linter.unusedVariables false
set_option linter.unusedSimpArgs false
set_option maxHeartbeats 3200000 in
set_option maxRecDepth 1000000 in
theorem law6 (bd : Option Addr) (bn bcap : Nat) (x : List Int) (ad : Option Addr) (n cap : Nat) (O A X M : Nat → Int) (at_ : Int) (w : World) (hx : Arr w bd bn bcap x) (hxn : bd = none → bn = 0 ∧ bcap = 0) (hbn : bn ≤ 1048576) (hM : ∀ i, i < n → I32 (M i)) (h : ∀ m, m ≤ n → Ins w w.heap.size ad m O A X M) (hcap : n ≤ cap) :
    Calls Try.prog 6 #[.slice bd bn bcap, .slice ad n cap, .int .i64 at_] w fun e w' => e = .returned (.bool true) ∧ Below w.heap.size w w' := by
  obtain ⟨i0, hi, hz0, hz1, hz2⟩ := info_parts info5
  have HI := Lib.hid (h n (Nat.le_refl _))
  have HM := Lib.hid hM; clear hM h
  have HX : Hid (B6 w bd bn bcap x) := Lib.hid (And.intro hx hxn); clear hx hxn
  go_enter Try.func6, Try.ntmps6
  go_upto_if 28 with fail
  go_cut [1] (fun l wx => ∃ m : Nat, m ≤ 12 ∧ m ≤ n ∧ l = .slice ad m cap ∧ w = wx)
  case first =>
    by_cases h12 : 12 < n
    · obtain ⟨b, off, rfl, _⟩ := HI.out 0 (by omega)
      have hc12 : 12 ≤ cap := by omega
      have hd : decide ((12 : Int) < (n : Int)) = true := by simp; omega
      go_wp2_with fail
      go_meet
      case rel => exact ⟨12, by omega, by omega, rfl, rfl⟩
    · have hd : decide ((12 : Int) < (n : Int)) = false := by simp; omega
      go_wp2_with fail
      go_meet
      case rel => exact ⟨n, by omega, by omega, rfl, rfl⟩
  case rest =>
    obtain ⟨m, hm1, hm2, rfl, rfl⟩ := hcut
    go_wp2_with fail
    go_loopw [0, 7] (fun v s wq => ∃ (k : Nat) (d' : Option Addr) (n' c' : Nat) (x' : List Int), k ≤ m ∧ s = .int .i64 k ∧ v = .slice d' n' c' ∧ Below w.heap.size w wq ∧ n' ≤ 1048576 + 10 * k ∧ Hid (B6 wq d' n' c' x')) (fun _ s _ => m - (intOf s).toNat)
    case atStart => exact ⟨0, bd, bn, bcap, x, Nat.zero_le _, rfl, rfl, Below.refl _ _, by omega, HX⟩
    case round =>
      obtain ⟨k, d', n', c', x', hk, rfl, rfl, hbel, hn', hB⟩ := hrel
      by_cases hk1 : k < m
      · have hkd : decide ((k : Int) < (m : Int)) = true := by simp; omega
        obtain ⟨b, off, hbo, hb, hat⟩ := HI.out k (by omega)
        subst hbo
        obtain ⟨a0, a1, a2, a3⟩ := hat.mono hbel hb
        rcases enc_fit (O k) (A k) (X k) (M k) with ⟨hE, hBn⟩ | ⟨hE, hBn⟩
        · have hfb := fit_bytes hE (HM.out k (by omega))
          have hsh := enc_short (O k) (A k) (X k) (M k)
          obtain ⟨bs, hbs⟩ : ∃ bs, encB (O k) (A k) (X k) (M k) = bs := ⟨_, rfl⟩
          rw [hbs] at hBn hfb hsh
          have hx'l : x'.length = n' := hB.out.1.1
          have C := Lib.hid (fun w => enc13Y (O k) (A k) (X k) (M k) bs hE hbs hBn w)
          have HF := Lib.hid (And.intro hBn hfb); clear hBn hfb hE hbs
          cases d' with
          | none =>
            obtain ⟨rfl, rfl⟩ := hB.out.2 rfl
            obtain rfl : x' = [] := List.length_eq_zero_iff.1 hx'l
            go_wp2_with (first
              | (go_at_call 11; refine (in11 _ _ _ _ _).mono ?_; rintro e w1 ⟨rfl, hb1⟩; have hbel1 := hbel.trans (hb1.mono hbel.size))
              | (go_at_call 13; refine (C.out _).mono ?_; rintro e w2 ⟨blk, base, cp, rfl, hblk, q4, hb2⟩; have hb12 := hb1.trans (hb2.mono hb1.size); have hbel2 := hbel.trans (hb12.mono hbel.size))
              | (at_builtin; refine wpList_append_own _ rfl _ _ 33 rfl w2.heap.size 5 i0 (.int .u8 0) 1 1 Try.underlying33 hi hz0 hz1 hz2 rfl (by decide) _ _ _ rfl (own_empty w2 w2.heap.size (Nat.le_refl _)) ⟨blk, base, none⟩ _ cp (u8s bs) rfl (by simp [u8s]) (src_bytes (fun j hj => (((Below.refl w2.heap.size w2).alloc (Nat.le_refl _) _).cell hblk).trans (q4.out j hj))) (one_u8s bs) (by unfold maxLen; omega) (by omega) (by simp) ?_; intro v3 w3 hv3 hgrow3 _; have hb3 : Below w2.heap.size w2 w3 := ((Below.refl w2.heap.size w2).alloc (Nat.le_refl _) _).grown hgrow3 (by simp) (fun j hj => by cases hj; simp); clear hgrow3)
              | (at_builtin; refine wpList_append_own_none rfl _ _ 33 rfl w2.heap.size 5 i0 1 Try.underlying33 hi _ _ _ rfl hv3 rfl ?_))
            obtain ⟨g4, c4, rfl, hb6⟩ := b6_own (bs := bs) (x := []) hv3 (by simp [u8s]) (by simp) HF.out.1 HF.out.2 (fun v hv => by cases hv)
            have HB6 := Lib.hid hb6; clear hb6
            refine ⟨⟨k + 1, _, _, c4, bs ++ [], by omega, by go_num, rfl, hbel.trans ((hb12.trans (hb3.mono hb12.size)).mono hbel.size), by omega, HB6⟩, ?_⟩
            simp [intOf]; omega
          | some da =>
            have T := fun (wz : World) (hz : Below wr.heap.size wr wz) => src_arr (hB.out.mono hz).1
            have HT := Lib.hid T; clear T
            go_wp2_with (first
              | (go_at_call 11; refine (in11 _ _ _ _ _).mono ?_; rintro e w1 ⟨rfl, hb1⟩; have hbel1 := hbel.trans (hb1.mono hbel.size))
              | (go_at_call 13; refine (C.out _).mono ?_; rintro e w2 ⟨blk, base, cp, rfl, hblk, q4, hb2⟩; have hb12 := hb1.trans (hb2.mono hb1.size); have hbel2 := hbel.trans (hb12.mono hbel.size))
              | (at_builtin; refine wpList_append_own _ rfl _ _ 33 rfl w2.heap.size 5 i0 (.int .u8 0) 1 1 Try.underlying33 hi hz0 hz1 hz2 rfl (by decide) _ _ _ rfl (own_empty w2 w2.heap.size (Nat.le_refl _)) ⟨blk, base, none⟩ _ cp (u8s bs) rfl (by simp [u8s]) (src_bytes (fun j hj => (((Below.refl w2.heap.size w2).alloc (Nat.le_refl _) _).cell hblk).trans (q4.out j hj))) (one_u8s bs) (by unfold maxLen; omega) (by omega) (by simp) ?_; intro v3 w3 hv3 hgrow3 _; have hb3 : Below w2.heap.size w2 w3 := ((Below.refl w2.heap.size w2).alloc (Nat.le_refl _) _).grown hgrow3 (by simp) (fun j hj => by cases hj; simp); clear hgrow3)
              | (at_builtin; refine wpList_append_own _ rfl _ _ 33 rfl w2.heap.size 5 i0 (.int .u8 0) 1 1 Try.underlying33 hi hz0 hz1 hz2 rfl (by decide) _ _ _ rfl hv3 da n' c' (u8s x') rfl (by simp [u8s, hx'l]) (HT.out _ (hb12.trans (hb3.mono hb12.size))) (one_u8s x') (by unfold maxLen; omega) (by omega) hb3.size ?_; intro v4 w4 hv4 hgrow4 _; have hb4 : Below w2.heap.size w2 w4 := hb3.grown hgrow4 hb3.size (fun j hj => (hv3.lt j hj).1); clear hgrow4))
            obtain ⟨g4, c4, rfl, hb6⟩ := b6_own (bs := bs) (x := x') hv4 (by simp [u8s]) (by simp [hx'l]) HF.out.1 HF.out.2 hB.out.1.2.2.2.1
            have HB6 := Lib.hid hb6; clear hb6
            refine ⟨⟨k + 1, _, _, c4, bs ++ x', by omega, by go_num, rfl, hbel.trans ((hb12.trans (hb4.mono hb12.size)).mono hbel.size), by omega, HB6⟩, ?_⟩
            simp [intOf]; omega
        · obtain ⟨E, hE2⟩ : ∃ E, encE (O k) (A k) (X k) (M k) = E := ⟨_, rfl⟩
          rw [hE2] at hE
          have C := Lib.hid (fun w => enc13N (O k) (A k) (X k) (M k) E hE2 w)
          have hEd : (E == 0) = false := by simpa using hE
          clear hE hE2
          go_wp2_with (first
            | (go_at_call 11; refine (in11 _ _ _ _ _).mono ?_; rintro e w1 ⟨rfl, hb1⟩; have hbel1 := hbel.trans (hb1.mono hbel.size))
            | (go_at_call 13; refine (C.out _).mono ?_; rintro e w2 ⟨v2, rfl, hb2⟩; have hb12 := hb1.trans (hb2.mono hb1.size); have hbel2 := hbel.trans (hb12.mono hbel.size)))
          go_roundw
          case rel => exact ⟨k + 1, d', n', c', x', by omega, by go_num, rfl, hbel2, by omega, Lib.hid (hB.out.mono hb12)⟩
          case measure => simp [intOf]; omega
      · obtain rfl : k = m := by omega
        clear hk hi hz0 hz1 hz2
        have hn9 : n' ≤ 2000000 := by omega
        clear hn' hbn
        go_upto_if 55 with fail
        go_cut [0] (fun v wx => ∃ (d2 : Option Addr) (n2 c2 : Nat) (x2 : List Int), n2 ≤ 80 ∧ v = .slice d2 n2 c2 ∧ Hid (B6 wx d2 n2 c2 x2) ∧ wr = wx)
        case first =>
          by_cases h80 : 80 < n'
          · have hd : decide ((80 : Int) < (n' : Int)) = true := by simp; omega
            have hc80 : 80 ≤ c' := by have := hB.out.1.2.1; omega
            obtain ⟨b, off, rfl, _⟩ := hB.out.1.row (by omega)
            have HB2 := Lib.hid (b6_take hB.out (by omega))
            go_wp2_with fail
            go_meet
            case rel => exact ⟨_, 80, c', x'.take 80, by omega, rfl, HB2, rfl⟩
          · have hd : decide ((80 : Int) < (n' : Int)) = false := by simp; omega
            go_wp2_with fail
            go_meet
            case rel => exact ⟨d', n', c', x', by omega, rfl, hB, rfl⟩
        case rest =>
          clear hB hn9
          obtain ⟨d2, n2, c2, x2, h80, rfl, hB2, rfl⟩ := hcut
          have hx2 : x2.length = n2 := hB2.out.1.1
          go_wp2_with (first
            | (go_at_call 19; refine (roomy19 d2 n2 c2 x2 _ hB2.out.1 h80).mono ?_; rintro e w1 ⟨g, rfl, hg, hF1, hb1⟩; have hA1 := arr_full hF1.out hB2.out.1.2.2.2.1 hx2 h80; have HA1 := Lib.hid hA1; clear hA1)
            | (go_at_call 17; refine (dec17F _ n2 (n2 + 80) at_ x2 _ HA1.out).mono ?_; rintro e w2 ⟨d, hd, rfl, hb2⟩; obtain ⟨o, a, b, nn, len, er, hdv⟩ := decV_shape d; have HD := Lib.hid hd; clear hd; have hr2 : Below wr.heap.size wr w2 := hb1.trans (hb2.mono hb1.size); rw [hdv])
            | (go_at_call 20; refine (dec20F d2 n2 c2 at_ x2 _ (hB2.out.1.mono (hr2.alloc hr2.size _)) h80).mono ?_; rintro e w3 ⟨d', hd', rfl, hb3⟩; obtain rfl := DecAt.unique hd' HD.out; rw [hdv]; have hr3 := below_in hr2 hr2.size hb3; have hc3 := below_in hb2 hb2.size hb3; have HI3 := Lib.hid (boxT hb3); clear hb3 hd')
            | (go_at_call 18; refine (all18F _ n2 (n2 + 80) x2 _ (HA1.out.mono (hc3.alloc hc3.size _)) h80).mono ?_; rintro e w5 hpost; obtain ⟨l, p, er5, k5, vad, uad, vc, uc, hall, rfl, hins, hints, hb5⟩ := allF hpost; clear hpost; have hr5 := below_in hr3 hr3.size hb5; have hc5 := below_in hc3 hc3.size hb5; have HI5 := Lib.hid (z_kept HI3.out hb5); have HJ5 := Lib.hid (boxT hb5); have HALL := Lib.hid hall; clear hall hb5)
            | (go_at_call 21; refine (all21F d2 n2 c2 x2 _ (hB2.out.1.mono hr5) h80).mono ?_; rintro e w6 hpost; obtain ⟨l', p', er6, k6, vad', uad', vc', uc', hall', rfl, hins', hints', hb6⟩ := allF hpost; clear hpost; obtain ⟨rfl, rfl, rfl, rfl⟩ := hall'.unique HALL.out; clear hall'))
          obtain ⟨hll, hpl⟩ := allOf_le HALL.out
          have hp80 : p'.length ≤ 80 := by omega
          have HPL := Lib.hid hpl; clear hpl
          have hr6 := hr5.trans (hb6.mono hr5.size)
          have hc6 := hc5.trans (hb6.mono hc5.size)
          have hltI := block_lt HI5.out
          have hltJ := block_lt HJ5.out
          have HI6 := Lib.hid ((hb6.block _ hltI).trans HI5.out)
          have HJ6 := Lib.hid ((hb6.block _ hltJ).trans HJ5.out)
          have HINS := Lib.hid (hins.mono hb6 hb6.size)
          have HINS' := Lib.hid hins'
          have HINT := Lib.hid (hints.mono hb6)
          have HINT' := Lib.hid hints'
          have HFU := Lib.hid (hF1.out.mono hc6)
          have HBB := Lib.hid (hB2.out.1.mono hr6)
          have hbel6 := hbel.trans (hr6.mono hbel.size)
          have hltI6 := Nat.lt_of_lt_of_le hltI hb6.size
          have hltJ6 := Nat.lt_of_lt_of_le hltJ hb6.size
          clear hins hins' hints hints' hF1 HA1 hB2 HI5 HJ5 HI3 hb6 hb2 hb1 hr2 hr3 hr5 hc3 hc5 hltI hltJ
          obtain ⟨i0', i1', i2', i3'⟩ := cellsT HI6.out
          obtain ⟨j0', j1', j2', j3'⟩ := cellsT HJ6.out
          go_cut [130] (fun v wc => v = .bool false ∧ Below w6.heap.size w6 wc)
          case first =>
            refine region_below w6 (by kernel_rfl) (by kernel_rfl) (Below.refl _ _) ?_
            go_big_quiet_want
            refine ⟨.agg #[.int .i64 o, .int .i64 a, .int .i64 b, .int .i32 nn], fun wz hz => ?_, ?_⟩
            · obtain ⟨a0', a1', a2', a3'⟩ := cellsT ((hz.block _ hltI6).trans HI6.out)
              go_simp
            go_simp
            go_big_quiet_on
            go_big_quiet_want
            refine ⟨.agg #[.int .i64 o, .int .i64 a, .int .i64 b, .int .i32 nn], fun wz hz => ?_, ?_⟩
            · obtain ⟨a0', a1', a2', a3'⟩ := cellsT ((hz.block _ hltJ6).trans HJ6.out)
              go_simp
            go_simp
            go_big_quiet_on
            repeat (first
              | go_big_quiet_skip
              | (go_big_quiet_want; go_big_quiet_op; go_big_quiet_on)
              | (go_big_quiet_want; go_big_quiet_op; apply Exists.intro; refine ⟨fun wz hz => ?_, ?_⟩; (first
                  | (go_at_call 16; refine (out16 _ _ _ _ _).mono ?_; rintro e w7 ⟨rfl, hb7⟩; exact ⟨rfl, hz.trans (hb7.mono hz.size)⟩)
                  | (go_at_call 22; refine (same22 uad uad' _ uc uc' (fun i => p'.getD i 0) _ (by omega) (HINT.out.mono hz) (HINT'.out.mono hz)).mono ?_; rintro e w8 ⟨rfl, j8, rfl⟩; exact ⟨rfl, below_drewN hz _⟩)); go_big_quiet_on)
              | (go_big_quiet_want; refine ⟨.int .i64 (l'.length : Int), fun wz hz => ?_, ?_⟩; (focus (go_simp; done)); go_simp; go_big_quiet_on)
              | (go_big_quiet_want; refine ⟨.bool false, fun wz hz => ?_, ?_⟩; (focus (go_simp; done)); go_simp; go_big_quiet_on))
            refine wpQuiet_nil ?_
            intro wz hz
            go_wp2_with fail
            go_meet
            case rel => exact ⟨rfl, hz⟩
          case rest =>
            obtain ⟨rfl, hb9⟩ := hcut
            go_wp2_with fail
            go_loopw [25] (fun s wq => ∃ q : Nat, q ≤ l'.length ∧ s = .int .i64 q ∧ Below w6.heap.size w6 wq) (fun s _ => l'.length - (intOf s).toNat)
            case atStart => exact ⟨0, Nat.zero_le _, rfl, hb9⟩
            case round =>
              clear hb9
              obtain ⟨q, hq, rfl, hbq⟩ := hrel
              by_cases hq1 : q < l'.length
              · obtain ⟨b1, off1, hv1, hbl1, hat1⟩ := HINS.out q hq1
                obtain ⟨b2, off2, hv2, hbl2, hat2⟩ := HINS'.out q hq1
                subst hv1 hv2
                obtain ⟨m0, m1, m2, m3⟩ := hat1.mono hbq hbl1
                obtain ⟨n0, n1, n2', n3⟩ := hat2.mono hbq hbl2
                have hqd : decide ((q : Int) < (l'.length : Int)) = true := by simp; omega
                go_wp2_with fail
                go_region_law (first
                  | (go_simp; go_at_call 16; refine (out16 _ _ _ _ _).mono ?_; rintro e w7 ⟨rfl, hb7⟩; have hb7' : Below wr.heap.size wr w7 := ⟨hb7.os, hb7.tape, hb7.output, hb7.size, hb7.block⟩; have hbq7 := hbq.trans (hb7'.mono hbq.size); obtain ⟨m0', m1', m2', m3'⟩ := hat1.mono hbq7 hbl1; obtain ⟨n0', n1', n2'', n3'⟩ := hat2.mono hbq7 hbl2))
                all_goals go_wp2
                all_goals go_roundw
                all_goals first
                  | exact ⟨q + 1, by omega, by go_num, hbq7⟩
                  | (simp [intOf]; omega)
              · obtain rfl : q = l'.length := by omega
                go_wp2_with (first
                  | (go_at_call 23; refine (intact23 g d2 n2 c2 x2 _ (HFU.out.mono hbq) (HBB.out.mono hbq) h80).mono ?_; rintro e w7 ⟨rfl, j7, rfl⟩)
                  | (go_at_call 10; refine (x86enc.known_call _).mono ?_; rintro e w8 ⟨rfl, hb8⟩))
                go_ret
                exact ⟨rfl, hbel6.trans ((hbq.trans ((below_drewN (Below.refl _ _) j7).trans (hb8.mono (Nat.le_refl _)) |>.mono hbq.size)).mono hbel6.size)⟩
end Go.Proofs.Ytjcjalmkjncoaaa.rdw
