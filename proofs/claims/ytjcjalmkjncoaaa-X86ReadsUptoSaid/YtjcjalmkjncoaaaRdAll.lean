/-
  x86.All: what it answers.
-/
import Derived.Test.YtjcjalmkjncoaaaRdDec
import Derived.Test.YtjcjalmkjncoaaaWrLaw
import Derived.Maps.AppendAt
namespace Go.Proofs.Ytjcjalmkjncoaaa.rdw
open Go Go.RowKit
open Go.Proofs.Ytjcjalmkjncoaaa Go.Proofs.Ytjcjalmkjncoaaa.wr
set_option linter.unusedVariables false
set_option linter.unusedSimpArgs false
theorem info32 : (Try.prog.info? 32).map (fun i => (i.zero, i.size, i.bytes)) = some (some (.agg #[.int .i64 0, .int .i64 0, .int .i64 0, .int .i32 0]), 4, 32) := by kernel_rfl
theorem info3 : (Try.prog.info? 3).map (fun i => (i.zero, i.size, i.bytes)) = some (some (.int .i64 0), 1, 8) := by kernel_rfl
/-- the cells of some instructions -/
def icells (l : List RD.Ins) : List Value := l.flatMap fun i => [.int .i64 (i.op : Int), .int .i64 i.a, .int .i64 i.b, .int .i32 i.n]
def pcells (p : List Int) : List Value := p.map (Value.int .i64)
theorem icells_snoc (l : List RD.Ins) (i : RD.Ins) : icells (l ++ [i]) = icells l ++ [.int .i64 (i.op : Int), .int .i64 i.a, .int .i64 i.b, .int .i32 i.n] := by simp [icells]
theorem pcells_snoc (p : List Int) (k : Int) : pcells (p ++ [k]) = pcells p ++ [.int .i64 k] := by simp [pcells]
/-- two rows in unlike blocks -/
def Dis (v u : Value) : Prop := ∀ g, v.ownBlock = some g → u.ownBlock ≠ some g
theorem Dis.nil (u : Value) : Dis (.slice none 0 0) u := fun g h => by cases h
theorem Dis.symm {v u : Value} (h : Dis v u) : Dis u v := fun g h1 h2 => h g h2 h1
theorem Dis.ne {v u : Value} (h : Dis v u) : u.ownBlock = none ∨ u.ownBlock ≠ v.ownBlock := by
  cases hu : u.ownBlock with
  | none => exact .inl rfl
  | some g => exact .inr fun e => h g e.symm hu
theorem Dis.grow {v v' u : Value} {w : World} {base e size n : Nat} {xs : List Value} (h : Dis v u) (hu : w.ownsRow base e size u n xs) (hv : v'.ownBlock = v.ownBlock ∨ v'.ownBlock = some w.heap.size) : Dis v' u := by
  intro g h1 h2
  rcases hv with hv | hv
  · exact h g (hv ▸ h1) h2
  · rw [hv] at h1; injection h1 with h1
    have := (hu.lt g h2).2
    omega
def AllPost (x : List Int) (el : Nat) (w : World) (e : Ending) (w' : World) : Prop :=
  (∃ (l : List RD.Ins) (p : List Int) (er k : Int) (v u : Value), RD.AllOf x l p er k ∧ e = .returned (.tuple #[v, u, .int .i64 er, .int .i64 k]) ∧ w'.ownsRow w.heap.size el 4 v l.length (icells l) ∧ w'.ownsRow w.heap.size 3 1 u p.length (pcells p)) ∧ Below w.heap.size w w'
theorem new1 (w : World) (a : Value) (t : TypeId) : ∀ j u, ([a] : List Value)[j]? = some u → (w.alloc (.cells #[a] t)).cell? ((⟨w.heap.size, 0, none⟩ : Addr).add j) = some u := by
  intro j u hj
  rw [Go.WideShapes.add_plain, World.cell?_alloc_at _ _ _ _ rfl]
  simpa using hj
theorem one1 (k : Int) : ∀ u ∈ ([.int .i64 k] : List Value), u.oneCell' = true := by
  intro u hu
  simp only [List.mem_cons, List.not_mem_nil, or_false] at hu
  subst hu; rfl
theorem own_snoc {w : World} {base e : Nat} {v : Value} {l : List RD.Ins} (i : RD.Ins) (h : w.ownsRow base e 4 v (l.length + 1) (icells l ++ [.int .i64 (i.op : Int), .int .i64 i.a, .int .i64 i.b, .int .i32 i.n])) : w.ownsRow base e 4 v (l ++ [i]).length (icells (l ++ [i])) := by
  rw [icells_snoc, List.length_append]; exact h
theorem own_psnoc {w : World} {base e : Nat} {v : Value} {p : List Int} (k : Int) (h : w.ownsRow base e 1 v (p.length + 1) (pcells p ++ [.int .i64 k])) : w.ownsRow base e 1 v (p ++ [k]).length (pcells (p ++ [k])) := by
  rw [pcells_snoc, List.length_append]; exact h
theorem results18 : Try.f18.results = #[.tmp 2, .tmp 3, .tmp 4, .tmp 5] := by kernel_rfl
theorem new4b (w : World) (o : Obj) (a b c d : Value) (t : TypeId) : ∀ j u, ([a, b, c, d] : List Value)[j]? = some u → ((w.alloc o).alloc (.cells #[a, b, c, d] t)).cell? ((⟨w.heap.size + 1, 0, none⟩ : Addr).add j) = some u := by
  intro j u hj
  have := new4 (w.alloc o) a b c d t j u hj
  rwa [World.size_alloc] at this
set_option maxRecDepth 1000000 in
theorem all18_nil (ad : Option Addr) (cap : Nat) (w : World) : Calls Try.prog 18 #[.slice ad 0 cap] w (AllPost [] 32 w) := by
  go_enter Try.func18, Try.ntmps18
  go_wp2
  go_loopw [6, 7, 8] (fun v u s wq => v = .slice none 0 0 ∧ u = .slice none 0 0 ∧ s = .int .i64 0 ∧ wq = w) (fun _ _ s _ => 0)
  case atStart => exact ⟨rfl, rfl, rfl, rfl⟩
  case round =>
    obtain ⟨rfl, rfl, rfl, rfl⟩ := hrel
    go_wp2_with fail
    refine bodyPost_ret (v := .tuple #[.slice none 0 0, .slice none 0 0, .int .i64 0, .int .i64 0]) (by simp [results, results18, go_sem]) rfl ⟨⟨[], [], 0, 0, _, _, .ok .none (Nat.le_refl _), rfl, World.ownsRow_nil _ _ _ _, World.ownsRow_nil _ _ _ _⟩, Below.refl _ _⟩
set_option maxHeartbeats 3200000 in
set_option maxRecDepth 1000000 in
theorem all18 (bb oo cap : Nat) (x : List Int) (w : World) (hL : x.length ≤ 100000) (hcap : x.length ≤ cap) (hL2 : cap ≤ 9223372036854775807) (hx : RD.isBytes x) (hr : Row w bb oo x) :
    Calls Try.prog 18 #[.slice (some ⟨bb, oo, none⟩) x.length cap] w (AllPost x 32 w) := by
  obtain ⟨i0, hi, hz0, hz1, hz2⟩ := info_parts info32
  obtain ⟨i1, hi', hz0', hz1', hz2'⟩ := info_parts info3
  have HX := Lib.hid hx; clear hx
  have HR := Lib.hid hr; clear hr
  go_enter Try.func18, Try.ntmps18
  go_wp2
  go_loopw [6, 7, 8] (fun v u s wq => ∃ (k : Nat) (l : List RD.Ins) (p : List Int), k ≤ x.length ∧ s = .int .i64 k ∧ Below w.heap.size w wq ∧ wq.ownsRow w.heap.size 32 4 v l.length (icells l) ∧ wq.ownsRow w.heap.size 3 1 u p.length (pcells p) ∧ Dis v u ∧ Hid (RD.Upto x k l p)) (fun _ _ s _ => x.length - (intOf s).toNat)
  case atStart => exact ⟨0, [], [], Nat.zero_le _, rfl, Below.refl _ _, World.ownsRow_nil _ _ _ _, World.ownsRow_nil _ _ _ _, Dis.nil _, Lib.hid .none⟩
  case round =>
    obtain ⟨k, l, p, hk, rfl, hbel, hv, hu, hdis, hup⟩ := hrel
    obtain ⟨_, hl1, hl2⟩ := hup.out.le
    by_cases hk1 : k < x.length
    · have C := decode17 bb oo cap k x wr hk1 hcap hL2 HX.out (HR.out.mono hbel)
      have HC := Lib.hid C; clear C
      go_wp2_with fail
      refine HC.out.mono ?_
      rintro e w1 ⟨⟨d, hd, he⟩, hb1⟩
      have hbel1 := hbel.trans (hb1.mono hbel.size)
      have hv1 := own_below hv hb1
      have hu1 := own_below hu hb1
      cases d with
      | ok op a b n len =>
        obtain ⟨p1, p2, p3⟩ := RD.len_pos hd
        rw [List.length_drop] at p2
        have HD := Lib.hid hd; clear hd
        simp only [decV] at he
        subst he
        have HDIS := Lib.hid hdis; clear hdis
        go_wp2_with (first
          | (at_builtin; refine wpList_append_own_at _ rfl _ _ 27 rfl w.heap.size 32 i0 (.agg #[.int .i64 0, .int .i64 0, .int .i64 0, .int .i32 0]) 4 32 Try.underlying27 hi hz0 hz1 hz2 rfl (by decide) _ _ _ rfl ((hv1.alloc _).alloc _) ⟨w1.heap.size + 1, 0, none⟩ 1 1 [.int .i64 (op : Int), .int .i64 a, .int .i64 b, .int .i32 n] rfl rfl (new4b _ _ _ _ _ _ _) (one4 _ _ _ _) (by unfold maxLen; omega) (by omega) (by have := hbel1.size; simp; omega) ?_; intro v2 w2 hv2 hgrow2 _ hob2; have hbel2 := ((hbel1.alloc hbel1.size _).alloc (by have := hbel1.size; simp; omega) _).grown hgrow2 (by have := hbel1.size; simp; omega) (fun j hj => (hv1.lt j hj).1); have hu2 := (((hu1.alloc _).alloc _).kept hgrow2 HDIS.out.ne); have HDIS2 := Lib.hid (HDIS.out.grow ((hu1.alloc _).alloc _) hob2); have hv2' := own_snoc (RD.Ins.mk op a b n) hv2; clear hv2 hgrow2 hob2)
          | (at_builtin; refine wpList_append_own_at _ rfl _ _ 22 rfl w.heap.size 3 i1 (.int .i64 0) 1 8 Try.underlying22 hi' hz0' hz1' hz2' rfl (by decide) _ _ _ rfl (hu2.alloc _) ⟨w2.heap.size, 0, none⟩ 1 1 [.int .i64 (k : Int)] rfl rfl (new1 _ _ _) (one1 _) (by unfold maxLen; omega) (by omega) (by have := hbel2.size; simp; omega) ?_; intro u3 w3 hu3 hgrow3 _ hob3; have hbel3 := (hbel2.alloc (by have := hbel2.size; omega) _).grown hgrow3 (by have := hbel2.size; simp; omega) (fun j hj => (hu2.lt j hj).1); have hv3 := ((hv2'.alloc _).kept hgrow3 HDIS2.out.symm.ne); have HDIS3 := Lib.hid (HDIS2.out.symm.grow (hv2'.alloc _) hob3).symm; have hu3' := own_psnoc (k : Int) hu3; clear hu3 hgrow3 hob3))
        have HUP := Lib.hid (RD.Upto.more hup.out hk1 HD.out)
        go_roundw
        case rel => exact ⟨k + len, _, _, by omega, by go_num, hbel3, hv3, hu3', HDIS3.out, HUP⟩
        case measure => simp [intOf]; omega
      | err er =>
        have her : er = 10 ∨ er = 12 := by
          cases hd
          · exact .inl rfl
          · exact .inr rfl
        have HD := Lib.hid hd; clear hd
        simp only [decV] at he
        subst he
        rcases her with rfl | rfl <;>
          (go_wp2_with fail
           refine bodyPost_ret (v := .tuple #[.slice none 0 0, .slice none 0 0, .int .i64 _, .int .i64 (k : Int)]) (by simp [results, results18, go_sem]) rfl ⟨⟨[], [], _, _, _, _, .err hup.out hk1 HD.out, rfl, World.ownsRow_nil _ _ _ _, World.ownsRow_nil _ _ _ _⟩, ?_⟩
           exact hbel1.alloc (by have := hbel1.size; omega) _)
    · obtain rfl : k = x.length := by omega
      go_wp2_with fail
      refine bodyPost_ret (v := .tuple #[_, _, .int .i64 0, .int .i64 0]) (by simp [results, results18, go_sem]) rfl ⟨⟨l, p, 0, 0, _, _, .ok hup.out (Nat.le_refl _), rfl, hv, hu⟩, hbel⟩
end Go.Proofs.Ytjcjalmkjncoaaa.rdw
