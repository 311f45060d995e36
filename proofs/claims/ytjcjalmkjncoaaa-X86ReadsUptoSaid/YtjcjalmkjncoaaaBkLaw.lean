/-
  X86Back answers true: what is written is read, what is read is written.
-/
import Derived.Test.YtjcjalmkjncoaaaBkA
import Derived.StillTailTactics
namespace Go.Proofs.Ytjcjalmkjncoaaa.rdw
open Go Go.RowKit
open Go.Proofs.Ytjcjalmkjncoaaa Go.Proofs.Ytjcjalmkjncoaaa.wr Go.Proofs.Ytjcjalmkjncoaaa.x86enc
set_option linter.unusedVariables false
set_option linter.unusedSimpArgs false
def I32 (n : Int) : Prop := -2147483648 ≤ n ∧ n ≤ 2147483647
theorem encR (op a b n : Int) (w : World) : Calls Try.prog 12 #[.agg #[.int .i64 op, .int .i64 a, .int .i64 b, .int .i32 n]] w fun e w' => ∃ (v : Value) (E : Int), e = .returned (.tuple #[v, .int .i64 E]) ∧ Hid (E = encE op a b n) ∧ Below w.heap.size w w' := by
  refine (enc12C op a b n w).mono fun e w' h => ?_
  obtain ⟨v, h1, h2, h3⟩ := h
  exact ⟨v, _, h1, Lib.hid rfl, h3⟩
theorem fit_of {op a b n : Int} (h : encE op a b n = 0) (hn : I32 n) : ∃ k : Nat, op = (k : Int) ∧ RD.Fit ⟨k, a, b, n⟩ := by
  by_cases h1 : 1 ≤ op ∧ op ≤ 26
  · obtain ⟨k, rfl⟩ := Int.eq_ofNat_of_zero_le (show 0 ≤ op by omega)
    refine ⟨k, rfl, by simp only; omega, by simp only; omega, ?_⟩
    cases hv : RD.valid k a b n with
    | true => rfl
    | false =>
      have := (enc_no k (by omega) (by omega) a b n hn hv).1
      rw [h] at this; cases this
  · exfalso
    have e := encO_other op a b n (by omega) (by omega) (by omega) (by omega) (by omega) (by omega) (by omega) (by omega) (by omega) (by omega) (by omega) (by omega) (by omega) (by omega) (by omega) (by omega) (by omega) (by omega) (by omega) (by omega) (by omega) (by omega) (by omega) (by omega) (by omega) (by omega)
    unfold encE at h
    rw [e] at h
    revert h
    decide
def d0 : RD.Ins := ⟨0, 0, 0, 0⟩
def fO (L : List RD.Ins) (i : Nat) : Int := ((L.getD i d0).op : Int)
def fA (L : List RD.Ins) (i : Nat) : Int := (L.getD i d0).a
def fX (L : List RD.Ins) (i : Nat) : Int := (L.getD i d0).b
def fM (L : List RD.Ins) (i : Nat) : Int := (L.getD i d0).n
theorem icells_length (L : List RD.Ins) : (icells L).length = L.length * 4 := by
  induction L with
  | nil => rfl
  | cons q L ih => simp only [icells, List.flatMap_cons, List.length_append, List.length_cons, List.length_nil] at ih ⊢; omega
theorem icells_get : ∀ (L : List RD.Ins) (i : Nat), i < L.length → (icells L)[i * 4]? = some (.int .i64 (fO L i)) ∧ (icells L)[i * 4 + 1]? = some (.int .i64 (fA L i)) ∧ (icells L)[i * 4 + 2]? = some (.int .i64 (fX L i)) ∧ (icells L)[i * 4 + 3]? = some (.int .i32 (fM L i))
  | [], i, h => by simp at h
  | q :: L, 0, h => ⟨rfl, rfl, rfl, rfl⟩
  | q :: L, i + 1, h => by
    have ih := icells_get L i (by simpa using h)
    have e : ∀ j, (icells (q :: L))[(i + 1) * 4 + j]? = (icells L)[i * 4 + j]? := by
      intro j
      have : icells (q :: L) = [.int .i64 (q.op : Int), .int .i64 q.a, .int .i64 q.b, .int .i32 q.n] ++ icells L := by simp [icells]
      rw [this, List.getElem?_append_right (by simp; omega)]
      congr 1; simp; omega
    exact ⟨(e 0).trans ih.1, (e 1).trans ih.2.1, (e 2).trans ih.2.2.1, (e 3).trans ih.2.2.2⟩
theorem own_insL {w : World} {base e : Nat} {v : Value} {L : List RD.Ins} (h : w.ownsRow base e 4 v L.length (icells L)) : ∃ ad cap, v = .slice ad L.length cap ∧ Ins w w.heap.size ad L.length (fO L) (fA L) (fX L) (fM L) := by
  have h0 := h
  have hlt := h.lt
  obtain ⟨h1, h2⟩ := h
  rcases h2 with ⟨hv, hn⟩ | ⟨g, cap, cur, rfl, hg, hh, hn, hcap, hsz, htake⟩
  · rw [hn]; exact ⟨none, 0, hv, fun i hi => by omega⟩
  · refine ⟨_, cap, rfl, fun i hi => ⟨g, 0, rfl, (hlt g rfl).2, ?_⟩⟩
    obtain ⟨e0, e1, e2, e3⟩ := icells_get L i hi
    rw [Nat.zero_add]
    exact ⟨(h0.cellAt _ (by omega)).trans e0, (h0.cellAt _ (by omega)).trans e1, (h0.cellAt _ (by omega)).trans e2, (h0.cellAt _ (by omega)).trans e3⟩
theorem getD_mem {L : List RD.Ins} {i : Nat} (h : i < L.length) : L.getD i d0 ∈ L := by
  have : L.getD i d0 = L[i] := by simp [List.getD, h]
  rw [this]; exact List.getElem_mem h
theorem cat_eq (L : List RD.Ins) (hL : ∀ q ∈ L, RD.Fit q) : wr.cat (fun i => encB (fO L i) (fA L i) (fX L i) (fM L i)) L.length = RD.cat L := by
  have key : ∀ j, j ≤ L.length → wr.cat (fun i => encB (fO L i) (fA L i) (fX L i) (fM L i)) j = RD.cat (L.take j) := by
    intro j
    induction j with
    | zero => intro _; simp [wr.cat, RD.cat]
    | succ j ih =>
      intro hj
      rw [wr.cat_succ, ih (by omega)]
      have hm := hL _ (getD_mem (show j < L.length by omega))
      have e := (enc_yes _ hm.1 hm.2.1 _ _ _ hm.2.2).2
      have e2 : L.take (j + 1) = L.take j ++ [L.getD j d0] := by
        rw [List.take_succ_eq_append_getElem (by omega)]
        congr 1; simp [List.getD, show j < L.length by omega]
      rw [e2]
      unfold RD.cat
      rw [List.flatMap_append, List.flatMap_cons, List.flatMap_nil, List.append_nil]
      congr 1
  have := key L.length (Nat.le_refl _)
  rwa [List.take_length] at this
theorem cat_length (L : List RD.Ins) : (RD.cat L).length ≤ 7 * L.length := by
  induction L with
  | nil => simp [RD.cat]
  | cons q L ih =>
    have : RD.cat (q :: L) = RD.enc q.op q.a q.b q.n ++ RD.cat L := by simp [RD.cat]
    rw [this, List.length_append, RD.enc_length, List.length_cons]
    have := RD.head_le q.op q.a q.b
    omega
theorem enc_bytes {k : Nat} (h1 : 1 ≤ k) (h2 : k ≤ 26) {a b n : Int} (hv : RD.valid k a b n = true) : RD.isBytes (RD.enc k a b n) := by
  obtain ⟨ha, hb, hn⟩ := (RD.valid_iff _ _ _ _).1 hv
  intro v hv
  unfold RD.enc at hv
  rcases List.mem_append.1 hv with h | h
  · exact head_bytes h1 h2 ha hb v h
  · rcases RD.nb_cases k with e | e | e <;> rw [e] at h <;> simp only [RD.le, List.mem_cons, List.not_mem_nil, or_false] at h
    · rw [h]; omega
    · rcases h with h | h | h | h <;> (rw [h]; omega)
theorem cat_bytes (L : List RD.Ins) (hL : ∀ q ∈ L, RD.Fit q) : RD.isBytes (RD.cat L) := by
  intro v hv
  unfold RD.cat at hv
  obtain ⟨q, hq, hv⟩ := List.mem_flatMap.1 hv
  have hf := hL q hq
  exact enc_bytes hf.1 hf.2.1 hf.2.2 v hv
/-- all of what was joined: the same again -/
theorem all_joined {L l : List RD.Ins} (hL : ∀ q ∈ L, RD.Fit q) {p : List Int} {er k : Int} (h : RD.AllOf (RD.cat L) l p er k) : l = L ∧ p.length = L.length ∧ er = 0 ∧ k = 0 := by
  obtain ⟨p', hp, ha⟩ := RD.all_cat L hL
  obtain ⟨rfl, rfl, rfl, rfl⟩ := h.unique ha
  exact ⟨rfl, hp, rfl, rfl⟩
/-- what was read of b, from its beginning -/
def Arr (w : World) (ad : Option Addr) (n cap : Nat) (x : List Int) : Prop := x.length = n ∧ n ≤ cap ∧ cap ≤ 9223372036854775807 ∧ RD.isBytes x ∧ (0 < n → ∃ b off, ad = some ⟨b, off, none⟩ ∧ Row w b off x)
theorem Arr.mono {w w' : World} {ad : Option Addr} {n cap : Nat} {x : List Int} (h : Arr w ad n cap x) (hb : Below w.heap.size w w') : Arr w' ad n cap x := by
  obtain ⟨h1, h2, h3, h4, h5⟩ := h
  refine ⟨h1, h2, h3, h4, fun hn => ?_⟩
  obtain ⟨b, off, e, hr⟩ := h5 hn
  exact ⟨b, off, e, hr.mono hb⟩
theorem own_slice {w : World} {base e size n : Nat} {v : Value} {xs : List Value} (h : w.ownsRow base e size v n xs) : ∃ ad cap, v = .slice ad n cap := by
  obtain ⟨h1, h2⟩ := h
  rcases h2 with ⟨hv, hn⟩ | ⟨g, cap, cur, rfl, _⟩
  · rw [hn]; exact ⟨none, 0, hv⟩
  · exact ⟨_, cap, rfl⟩
theorem all_own {w : World} {B : Nat} {v : Value} (L : List RD.Ins) (hL : ∀ q ∈ L, RD.Fit q) (h60 : L.length ≤ 60) (h : w.ownsRow B 5 1 v (RD.cat L).length (u8s (RD.cat L))) :
    Calls Try.prog 18 #[v] w fun e w' => ∃ (lv pv : Value) (p : List Int), e = .returned (.tuple #[lv, pv, .int .i64 0, .int .i64 0]) ∧ p.length = L.length ∧ w'.ownsRow w.heap.size 32 4 lv L.length (icells L) ∧ w'.ownsRow w.heap.size 3 1 pv p.length (pcells p) ∧ Below w.heap.size w w' := by
  have key : Calls Try.prog 18 #[v] w (AllPost (RD.cat L) 32 w) := by
    by_cases hc : RD.cat L = []
    · rw [hc] at h ⊢
      obtain ⟨ad, cap, rfl⟩ := own_slice h
      exact all18_nil ad cap w
    · obtain ⟨g, cap, rfl, h1, h2, h3⟩ := own_row (n := 0) h hc
      exact all18 g 0 cap (RD.cat L) w (by have := cat_length L; omega) h1 h2 (cat_bytes L hL) h3
  refine key.mono fun e w' hh => ?_
  obtain ⟨⟨l, p, er, k, lv, pv, ha, rfl, h1, h2⟩, hb⟩ := hh
  obtain ⟨rfl, hp, rfl, rfl⟩ := all_joined hL ha
  exact ⟨lv, pv, p, rfl, hp, h1, h2, hb⟩
/-- what is read at the beginning of what came in -/
theorem dec0 {w : World} {bd : Option Addr} {bn bcap : Nat} {x : List Int} (h : Arr w bd bn bcap x) : Calls Try.prog 17 #[.slice bd bn bcap, .int .i64 0] w fun e w' => ∃ d, (RD.Reads x d ∨ d = .err 1) ∧ e = .returned (decV d) ∧ Below w.heap.size w w' := by
  obtain ⟨h1, h2, h3, h4, h5⟩ := h
  by_cases hn : 0 < bn
  · obtain ⟨b, off, rfl, hr⟩ := h5 hn
    subst h1
    have := decode17 b off bcap 0 x w hn h2 h3 h4 hr
    refine this.mono fun e w' hh => ?_
    obtain ⟨⟨d, hd, he⟩, hb⟩ := hh
    exact ⟨d, .inl (by simpa using hd), he, hb⟩
  · obtain rfl : bn = 0 := by omega
    exact (decode17_out bd 0 bcap 0 w (.inr (by simp)) (by omega)).mono fun e w' hh => ⟨_, .inr rfl, hh.1, hh.2⟩
set_option maxHeartbeats 3200000 in
set_option maxRecDepth 1000000 in
theorem law7 (ad : Option Addr) (n cap : Nat) (O A X M : Nat → Int) (bd : Option Addr) (bn bcap : Nat) (x : List Int) (w : World) (hM : ∀ i, i < n → I32 (M i)) (h : ∀ m, m ≤ n → Ins w w.heap.size ad m O A X M) (hx : Arr w bd bn bcap x) :
    Calls Try.prog 7 #[.slice ad n cap, .slice bd bn bcap] w fun e w' => e = .returned (.bool true) ∧ Below w.heap.size w w' := by
  obtain ⟨i0, hi, hz0, hz1, hz2⟩ := info_parts info32
  have HI := Lib.hid (h n (Nat.le_refl _)); clear h
  have HM := Lib.hid hM; clear hM
  have HX := Lib.hid hx; clear hx
  go_enter Try.func7, Try.ntmps7
  go_wp2
  go_loopw [5, 6] (fun v s wq => ∃ (i : Nat) (L : List RD.Ins), i ≤ n ∧ i ≤ 60 ∧ s = .int .i64 i ∧ Below w.heap.size w wq ∧ wq.ownsRow w.heap.size 32 4 v L.length (icells L) ∧ L.length ≤ i ∧ Hid (∀ q ∈ L, RD.Fit q)) (fun _ s _ => 60 - (intOf s).toNat)
  case atStart => exact ⟨0, [], Nat.zero_le _, Nat.zero_le _, rfl, Below.refl _ _, World.ownsRow_nil _ _ _ _, Nat.le_refl _, Lib.hid fun q hq => by cases hq⟩
  case round =>
    obtain ⟨i, L, hi1, hi2, rfl, hbel, hown, hLi, hfit⟩ := hrel
    by_cases hc : i < n ∧ i < 60
    · obtain ⟨c1, c2⟩ := hc
      obtain ⟨b, off, rfl, hb, hat⟩ := HI.out i c1
      obtain ⟨a0, a1, a2, a3⟩ := hat.mono hbel hb
      have t1 : decide ((i : Int) < (n : Int)) = true := by simp; omega
      have t2 : decide ((i : Int) < 60) = true := by simp; omega
      go_wp2_with (first
        | (go_at_call 12; refine (encR _ _ _ _ _).mono ?_; rintro e w1 ⟨v1, E, rfl, hE, hb1⟩; have hbel1 := hbel.trans (hb1.mono hbel.size); have hown1 := own_below hown hb1; obtain ⟨q0, q1, q2, q3⟩ := hat.mono hbel1 hb)
        | (at_builtin; refine wpList_append_own _ rfl _ _ 27 rfl w.heap.size 32 i0 (.agg #[.int .i64 0, .int .i64 0, .int .i64 0, .int .i32 0]) 4 32 Try.underlying27 hi hz0 hz1 hz2 rfl (by decide) _ _ _ rfl (hown1.alloc _) ⟨w1.heap.size, 0, none⟩ 1 1 [.int .i64 (O i), .int .i64 (A i), .int .i64 (X i), .int .i32 (M i)] rfl rfl (new4 _ _ _ _ _ _) (one4 _ _ _ _) (by unfold maxLen; omega) (by omega) (by have := hbel1.size; simp; omega) ?_; intro v2 w2 hv2 hgrow2 _; have hbel2 := (hbel1.alloc hbel1.size _).grown hgrow2 (by have := hbel1.size; simp; omega) (fun j hj => (hown1.lt j hj).1); have HV := Lib.hid hv2; clear hv2 hgrow2))
      · have hE0 : E = 0 := by simpa using (show (E == 0) = true by assumption)
        obtain ⟨kk, hkk, hfk⟩ := fit_of (hE.out.symm.trans hE0) (HM.out i c1)
        have hv3 := HV.out
        rw [hkk] at hv3
        have hv4 := own_snoc (RD.Ins.mk kk (A i) (X i) (M i)) hv3
        have hF2 : Hid (∀ q ∈ L ++ [RD.Ins.mk kk (A i) (X i) (M i)], RD.Fit q) := Lib.hid fun q hq => by
          rcases List.mem_append.1 hq with h | h
          · exact hfit.out q h
          · rw [List.mem_singleton.1 h]; exact hfk
        clear hv3
        have hE1 := Lib.hid hE0; clear hE0
        have hK1 := Lib.hid hkk; clear hkk
        go_roundw
        case rel => exact ⟨i + 1, _, by omega, by omega, by go_num, hbel2, hv4, by simp; omega, hF2⟩
        case measure => simp [intOf]; omega
      · go_roundw
        case rel => exact ⟨i + 1, L, by omega, by omega, by go_num, hbel1, hown1, by omega, hfit⟩
        case measure => simp [intOf]; omega
    · have HU := HI.out
      clear hi hz0 hz1 hz2
      obtain ⟨lad, lcap, rfl, hins⟩ := own_insL hown
      have hown0 := Lib.hid hins; clear hins hown
      have hall : ∀ j, j < L.length → encE (fO L j) (fA L j) (fX L j) (fM L j) = 0 := fun j hj => by
        have hm := hfit.out _ (getD_mem hj)
        exact (enc_yes _ hm.1 hm.2.1 _ _ _ hm.2.2).1
      have CJ := join14B lad L.length lcap (fO L) (fA L) (fX L) (fM L) wr (by omega) hown0.out hall
      rw [cat_eq L hfit.out] at CJ
      have HJ := Lib.hid CJ; clear CJ hall HU
      have HF := hfit
      by_cases c1 : i < n
      · have t1 : decide ((i : Int) < (n : Int)) = true := by simp; omega
        have t2 : decide ((i : Int) < 60) = false := by simp; omega
        go_wp2_with (first
          | (go_at_call 14; refine HJ.out.mono ?_; rintro e w1 ⟨vj, rfl, hoj, hb1⟩; have hbel1 := hbel.trans (hb1.mono hbel.size))
          | (go_at_call 18; refine (all_own L hfit.out (by omega) hoj).mono ?_; rintro e w2 ⟨lv, pv, p, rfl, hp, hlv, hpv, hb2⟩; obtain ⟨lad2, lcap2, rfl, hin2⟩ := own_insL hlv; obtain ⟨pad, pcap, rfl⟩ := own_slice hpv; have hbel2 := hbel1.trans (hb2.mono hbel1.size); have hIN2 := Lib.hid hin2; clear hin2 hlv hpv)
          | (go_at_call 24; refine (same24 lad2 lad L.length lcap2 lcap _ _ _ _ w2 (by omega) hIN2.out (hown0.out.mono (hb1.trans (hb2.mono hb1.size)) (Nat.le_trans hb1.size hb2.size))).mono ?_; rintro e w3 ⟨rfl, j3, rfl⟩))
        have hbel3 := below_drewN hbel2 j3
        have hA3 := HX.out.mono hbel3
        refine (dec0 hA3).mono ?_
        rintro e w4 ⟨d, hd, he, hb4⟩
        have hbel4 := hbel3.trans (hb4.mono hbel3.size)
        have hA4 := Lib.hid (HX.out.mono hbel4); clear hA3
        cases d with
        | err er =>
          have her : er = 1 ∨ er = 10 ∨ er = 12 := by
            rcases hd with hd | hd
            · cases hd
              · exact .inr (.inl rfl)
              · exact .inr (.inr rfl)
            · injection hd with hd; exact .inl hd
          clear hd
          simp only [decV] at he
          subst he
          rcases her with rfl | rfl | rfl <;>
            (go_wp2_with (go_at_call 10; refine (x86enc.known_call _).mono ?_; rintro e w5 ⟨rfl, hb5⟩)
             go_ret
             exact ⟨rfl, (hbel4.alloc (by have := hbel4.size; omega) _).trans (hb5.mono (by have := hbel4.size; simp; omega))⟩)
        | ok op a b n' len =>
          have hd' : RD.Reads x (.ok op a b n' len) := by
            rcases hd with hd | hd
            · exact hd
            · cases hd
          clear hd
          simp only [decV] at he
          subst he
          obtain ⟨o1, o2, hv, t, hxt, hlen⟩ : 1 ≤ op ∧ op ≤ 26 ∧ RD.valid op a b n' = true ∧ ∃ t, x = RD.enc op a b n' ++ t ∧ len = (RD.enc op a b n').length := by
            cases hd' with
            | ok h1 h2 h => exact ⟨h1, h2, h.1, h.2.choose, h.2.choose_spec, rfl⟩
          have HXT := Lib.hid hxt; clear hxt hd'
          subst hlen
          have HE := Lib.hid (encV12 op o1 o2 a b n' hv)
          go_wp2_with (go_at_call 12; refine (HE.out _).mono ?_; rintro e w5 ⟨y, rfl, hy, hb5⟩)
          have hbel5 := (hbel4.alloc (by have := hbel4.size; omega) (.cells #[.int .i64 (op : Int), .int .i64 a, .int .i64 b, .int .i32 n'] 32)).trans (hb5.mono (by have := hbel4.size; simp; omega))
          obtain ⟨g1, g2, g3, g4, g5⟩ := HX.out.mono hbel5
          have hlx : (RD.enc op a b n').length ≤ bn := by rw [← g1, HXT.out]; simp
          have hpos : 0 < bn := by have := List.length_pos_iff.2 (enc_ne op a b n'); omega
          have hbcap : bn ≤ bcap := g2
          obtain ⟨bb, boff, rfl, hrow⟩ := g5 hpos
          obtain ⟨blk, base, cp, rfl, y1, y2, y3, y4⟩ := hy
          have T1 := run_convert_bytes_arg (P := Try.prog) w5.drew 33 5 Try.underlying33 Try.underlying5 blk base _ cp (RD.enc op a b n') rfl y4 9 Try.underlying9
          have T2 := run_convert_bytes_arg (P := Try.prog) w5.drew 33 5 Try.underlying33 Try.underlying5 bb boff _ bcap (RD.enc op a b n') rfl (fun j hj => by
            have := hrow.2 j (by omega)
            refine this.trans ?_
            rw [HXT.out]
            simp only [List.getD, List.getElem?_append_left hj]) 9 Try.underlying9
          have hle : decide (((RD.enc op a b n').length : Int) ≤ (bn : Int)) = true := by simp; omega
          have hlc : (RD.enc op a b n').length ≤ bcap := by omega
          generalize hbs : RD.enc op a b n' = bs at *
          generalize hst : strOfNums bs = st at *
          have HBS := Lib.hid (And.intro hbs hst); clear hbs hst
          have HY := Lib.hid y4; clear y4
          have HROW := Lib.hid hrow; clear hrow g1 g5
          go_still_tail 18, (by kernel_rfl)
          change wpList _ _ _ _ _ w5.drew
          have hbel6 : Below w.heap.size w w5.drew := hbel5.drew
          generalize w5.drew = w6 at *
          go_wp2_with (go_at_call 10; refine (x86enc.known_call _).mono ?_; rintro e w7 ⟨rfl, hb7⟩)
          go_ret
          exact ⟨rfl, hbel6.trans (hb7.mono hbel6.size)⟩
      · have t1 : decide ((i : Int) < (n : Int)) = false := by simp; omega
        go_wp2_with (first
          | (go_at_call 14; refine HJ.out.mono ?_; rintro e w1 ⟨vj, rfl, hoj, hb1⟩; have hbel1 := hbel.trans (hb1.mono hbel.size))
          | (go_at_call 18; refine (all_own L hfit.out (by omega) hoj).mono ?_; rintro e w2 ⟨lv, pv, p, rfl, hp, hlv, hpv, hb2⟩; obtain ⟨lad2, lcap2, rfl, hin2⟩ := own_insL hlv; obtain ⟨pad, pcap, rfl⟩ := own_slice hpv; have hbel2 := hbel1.trans (hb2.mono hbel1.size); have hIN2 := Lib.hid hin2; clear hin2 hlv hpv)
          | (go_at_call 24; refine (same24 lad2 lad L.length lcap2 lcap _ _ _ _ w2 (by omega) hIN2.out (hown0.out.mono (hb1.trans (hb2.mono hb1.size)) (Nat.le_trans hb1.size hb2.size))).mono ?_; rintro e w3 ⟨rfl, j3, rfl⟩))
        have hbel3 := below_drewN hbel2 j3
        have hA3 := HX.out.mono hbel3
        refine (dec0 hA3).mono ?_
        rintro e w4 ⟨d, hd, he, hb4⟩
        have hbel4 := hbel3.trans (hb4.mono hbel3.size)
        have hA4 := Lib.hid (HX.out.mono hbel4); clear hA3
        cases d with
        | err er =>
          have her : er = 1 ∨ er = 10 ∨ er = 12 := by
            rcases hd with hd | hd
            · cases hd
              · exact .inr (.inl rfl)
              · exact .inr (.inr rfl)
            · injection hd with hd; exact .inl hd
          clear hd
          simp only [decV] at he
          subst he
          rcases her with rfl | rfl | rfl <;>
            (go_wp2_with (go_at_call 10; refine (x86enc.known_call _).mono ?_; rintro e w5 ⟨rfl, hb5⟩)
             go_ret
             exact ⟨rfl, (hbel4.alloc (by have := hbel4.size; omega) _).trans (hb5.mono (by have := hbel4.size; simp; omega))⟩)
        | ok op a b n' len =>
          have hd' : RD.Reads x (.ok op a b n' len) := by
            rcases hd with hd | hd
            · exact hd
            · cases hd
          clear hd
          simp only [decV] at he
          subst he
          obtain ⟨o1, o2, hv, t, hxt, hlen⟩ : 1 ≤ op ∧ op ≤ 26 ∧ RD.valid op a b n' = true ∧ ∃ t, x = RD.enc op a b n' ++ t ∧ len = (RD.enc op a b n').length := by
            cases hd' with
            | ok h1 h2 h => exact ⟨h1, h2, h.1, h.2.choose, h.2.choose_spec, rfl⟩
          have HXT := Lib.hid hxt; clear hxt hd'
          subst hlen
          have HE := Lib.hid (encV12 op o1 o2 a b n' hv)
          go_wp2_with (go_at_call 12; refine (HE.out _).mono ?_; rintro e w5 ⟨y, rfl, hy, hb5⟩)
          have hbel5 := (hbel4.alloc (by have := hbel4.size; omega) (.cells #[.int .i64 (op : Int), .int .i64 a, .int .i64 b, .int .i32 n'] 32)).trans (hb5.mono (by have := hbel4.size; simp; omega))
          obtain ⟨g1, g2, g3, g4, g5⟩ := HX.out.mono hbel5
          have hlx : (RD.enc op a b n').length ≤ bn := by rw [← g1, HXT.out]; simp
          have hpos : 0 < bn := by have := List.length_pos_iff.2 (enc_ne op a b n'); omega
          have hbcap : bn ≤ bcap := g2
          obtain ⟨bb, boff, rfl, hrow⟩ := g5 hpos
          obtain ⟨blk, base, cp, rfl, y1, y2, y3, y4⟩ := hy
          have T1 := run_convert_bytes_arg (P := Try.prog) w5.drew 33 5 Try.underlying33 Try.underlying5 blk base _ cp (RD.enc op a b n') rfl y4 9 Try.underlying9
          have T2 := run_convert_bytes_arg (P := Try.prog) w5.drew 33 5 Try.underlying33 Try.underlying5 bb boff _ bcap (RD.enc op a b n') rfl (fun j hj => by
            have := hrow.2 j (by omega)
            refine this.trans ?_
            rw [HXT.out]
            simp only [List.getD, List.getElem?_append_left hj]) 9 Try.underlying9
          have hle : decide (((RD.enc op a b n').length : Int) ≤ (bn : Int)) = true := by simp; omega
          have hlc : (RD.enc op a b n').length ≤ bcap := by omega
          generalize hbs : RD.enc op a b n' = bs at *
          generalize hst : strOfNums bs = st at *
          have HBS := Lib.hid (And.intro hbs hst); clear hbs hst
          have HY := Lib.hid y4; clear y4
          have HROW := Lib.hid hrow; clear hrow g1 g5
          go_still_tail 18, (by kernel_rfl)
          change wpList _ _ _ _ _ w5.drew
          have hbel6 : Below w.heap.size w w5.drew := hbel5.drew
          generalize w5.drew = w6 at *
          go_wp2_with (go_at_call 10; refine (x86enc.known_call _).mono ?_; rintro e w7 ⟨rfl, hb7⟩)
          go_ret
          exact ⟨rfl, hbel6.trans (hb7.mono hbel6.size)⟩
end Go.Proofs.Ytjcjalmkjncoaaa.rdw
