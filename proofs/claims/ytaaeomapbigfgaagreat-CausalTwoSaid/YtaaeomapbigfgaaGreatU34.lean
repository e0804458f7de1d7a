/- hearsaylaw13.able of a script of which one step could not be delivered. What CausalOrder leans on. -/
import Derived.Test.YtaaeomapbigfgaaGreatU32
import Derived.Test.YtaaeomapbigfgaaGreatU33
import Derived.Test.YtaaeomapbigfgaaGreatU13
import Derived.Test.YtaaeomapbigfgaaGreatU21
import Derived.Test.YtaaeomapbigfgaaGreatU31
namespace Go.Proofs.YtaaeomapbigfgaaGreat
open Go.RowKit Go.Proofs.YtaaeomapbigfgaaGreat.St
open Go.Sort (grow)
theorem OpIn.kept {w w' : World} {e : Ent} (h : OpIn w e) (hk : Kept (fun _ => False) w w') : OpIn w' e := ⟨⟨h.at_.deps.kept hk, h.at_.gone.kept hk⟩, h.runs, h.text, h.dots, h.nums, h.ids⟩
theorem OpIn.lens {w : World} {e : Ent} (h : OpIn w e) (hb : ¬ bigP e.v) : e.D.length ≤ 3000 ∧ e.G.length ≤ 3000 ∧ e.v.text.size ≤ 3000 := by
  have e1 : e.v.deps.n = e.D.length := by obtain ⟨_, _, he, _⟩ := h.at_.deps.sl; injection he
  have e2 : e.v.gone.n = e.G.length := by obtain ⟨_, _, he, _⟩ := h.at_.gone.sl; injection he
  unfold bigP at hb
  omega
theorem get_bd (V : List Dot) (s : Int) : 0 ≤ getV V s ∧ getV V s ≤ 2147483647 := by
  unfold getV
  by_cases h : isSite s
  · rw [if_pos h]; exact says_bd V _
  · rw [if_neg h]; exact ⟨by decide, by decide⟩
theorem opC_two (x : OpV) (D : List Dot) (G : List Run) : opC x D G = 0 ∨ opC x D G = 10 := by
  unfold opC
  by_cases h : opOk x D G
  · rw [if_pos h]; exact .inl rfl
  · rw [if_neg h]; exact .inr rfl
set_option maxRecDepth 100000 in
set_option maxHeartbeats 8000000 in
theorem able_false {w : World} {lv hv : Value} {L : List StV} {d : Dot} {H : List Dot} (hL : SlAt stE w lv L) (hS : ∀ s ∈ L, OpIn w s.e ∧ ¬ bigP s.e.v) (hLl : L.length ≤ 300) (hH : SlAt dotE w hv H) (hHl : H.length ≤ 1000000) {j : Nat} {s0 : StV} (hj : L[j]? = some s0) (hd : s0.e.v.dot = d) (hc : opC s0.e.v s0.e.D s0.e.G = 0) (hcan : ¬ Ent.can H d s0.e.D) :
    Calls Tryz.prog 24 #[lv, .agg #[.int .i64 d.site, .int .i64 d.seq], hv] w fun e w' => e = .returned (.bool false) ∧ Kept (fun _ => False) w w' := by
  obtain ⟨la, lc, rfl, _, _⟩ := hL.sl
  have hjl := (List.getElem?_eq_some_iff.1 hj).1
  have hB := Blk.new w 28 #[.int .i64 d.site, .int .i64 d.seq]
  have k0 : Kept (fun _ => False) w (w.alloc (.cells #[.int .i64 d.site, .int .i64 d.seq] 28)) := (Kept.refl _ _).alloc _
  obtain ⟨W, hW⟩ : ∃ W, (w.alloc (.cells #[.int .i64 d.site, .int .i64 d.seq] 28)) = W := ⟨_, rfl⟩
  rw [hW] at hB k0
  have HW := Lib.hid hW
  have HBX := Lib.hid hB
  have HL := Lib.hid (hL.kept k0)
  have HSS : Hid (∀ s ∈ L, OpIn W s.e ∧ ¬ bigP s.e.v) := Lib.hid (fun s hs => ⟨(hS s hs).1.kept k0, (hS s hs).2⟩)
  have HH := Lib.hid (hH.kept k0)
  have HJ := Lib.hid (And.intro hj (And.intro hd (And.intro hc hcan)))
  have K0 := Lib.hid k0
  have hmix : Tryz.prog.follows .mixedOrders = true := by kernel_rfl
  have hHl2 := Lib.hid hHl
  obtain ⟨gv, hgv⟩ : ∃ n, getV H d.site = n := ⟨_, rfl⟩
  have gbd := get_bd H d.site
  rw [hgv] at gbd
  have hw : IntKind.i64.wrap (gv + 1) = gv + 1 := IntWalk.i64_in _ (by omega)
  have GV := Lib.hid hgv
  clear hL hS hH hj hd hc hcan k0 hB hW hHl hgv
  go_enter Tryz.func24, Tryz.ntmps24
  go_upto_region 1 with fail
  rw [HW.out]
  clear HW
  go_wp2_with fail
  go_loopw [7, 8] (fun sv iv wr => ∃ (k : Nat) (b : Bool), iv = .int .i64 k ∧ sv = .bool b ∧ k ≤ j ∧ Kept (fun _ => False) W wr) (fun _ iv _ => j + 1 - (intOf iv).toNat)
  case atStart => exact ⟨0, false, rfl, rfl, Nat.zero_le _, Kept.refl _ _⟩
  case round =>
    obtain ⟨k, bs, rfl, rfl, hk, hkk⟩ := hrel
    have hk0 : (0 : Int) ≤ k := by omega
    have hltI : (k : Int) < L.length := by omega
    obtain ⟨x, hx⟩ := get_of_lt (show k < L.length by omega)
    have hxm := List.mem_of_getElem? hx
    obtain ⟨g, o, c', e1, hcs⟩ := SlAt.step (HL.out.kept hkk) (by omega)
    injection e1 with e2 _ e3
    subst e2 e3
    have CSr := Lib.hid (hcs k x hx).1
    have IN := Lib.hid ((HSS.out x hxm).1.kept hkk)
    have NB := Lib.hid (HSS.out x hxm).2
    have HX := Lib.hid hx
    have KW := Lib.hid hkk
    have BX := Lib.hid (hkk.blk (fun h => h) HBX.out)
    have HHr := Lib.hid (HH.out.kept hkk)
    clear hcs hx hxm hkk
    have A3 := Lib.hid (Blk.new wr 42 zeroOp)
    go_upto_region 6 with (first
      | (refine wpList_load_at (E := entE) (z := x.e) rfl 42 _ rfl rfl CSr.out Tryz.underlying42 rfl size_op ?_)
      | (refine wpList_store_row rfl 42 _ _ rfl wr.heap.size (opA x.e.v) rfl rfl 42 zeroOp A3.out (by rw [opA_size]; exact size_op) (by rw [opA_size]; rfl) (opA_one _) ?_))
    have kA : Kept (fun _ => False) wr ((wr.alloc (.cells zeroOp 42)).setRow wr.heap.size (opA x.e.v)) := ((Kept.refl _ _).alloc _).setRow (fun h => by omega) _
    have A4 := Lib.hid (A3.out.row (opA x.e.v))
    have BX2 := Lib.hid (kA.blk (fun h => h) BX.out)
    have IN2 := Lib.hid (IN.out.kept kA)
    have HH2 := Lib.hid (HHr.out.kept kA)
    have K2 := Lib.hid (KW.out.trans kA (fun _ _ h => h))
    generalize wr.heap.size = bo at *
    generalize (wr.alloc (.cells zeroOp 42)).setRow bo (opA x.e.v) = w2 at *
    clear A3 kA CSr IN BX HHr KW
    obtain ⟨⟨⟨dot, ⟨da, dn, dc⟩, kd, id, ref, text, ⟨ga, gn, gc⟩, st⟩, D, G⟩, no, tk⟩ := x
    have x0 : w2.cell? ⟨bo, 0, none⟩ = some (.int .i64 dot.site) := A4.out.cell' (i := 0) rfl
    have x1 : w2.cell? ⟨bo, 1, none⟩ = some (.int .i64 dot.seq) := A4.out.cell' (i := 1) rfl
    have x2 : w2.cell? ⟨bo, 2, none⟩ = some (.slice da dn dc) := A4.out.cell' (i := 2) rfl
    have x3 : w2.cell? ⟨bo, 3, none⟩ = some (.int .i64 kd) := A4.out.cell' (i := 3) rfl
    have x4 : w2.cell? ⟨bo, 4, none⟩ = some (.int .i64 id.t) := A4.out.cell' (i := 4) rfl
    have x5 : w2.cell? ⟨bo, 5, none⟩ = some (.int .i64 id.s) := A4.out.cell' (i := 5) rfl
    have x6 : w2.cell? ⟨bo, 6, none⟩ = some (.int .i64 ref.t) := A4.out.cell' (i := 6) rfl
    have x7 : w2.cell? ⟨bo, 7, none⟩ = some (.int .i64 ref.s) := A4.out.cell' (i := 7) rfl
    have x8 : w2.cell? ⟨bo, 8, none⟩ = some (.string text) := A4.out.cell' (i := 8) rfl
    have x9 : w2.cell? ⟨bo, 9, none⟩ = some (.slice ga gn gc) := A4.out.cell' (i := 9) rfl
    have x10 : w2.cell? ⟨bo, 10, none⟩ = some (.int .i64 st) := A4.out.cell' (i := 10) rfl
    have y0 : w2.cell? ⟨w.heap.size, 0, none⟩ = some (.int .i64 d.site) := BX2.out.cell' (i := 0) rfl
    have y1 : w2.cell? ⟨w.heap.size, 1, none⟩ = some (.int .i64 d.seq) := BX2.out.cell' (i := 1) rfl
    have LNS := IN2.out.lens NB.out
    simp only at LNS
    have HC8 := Lib.hid (rcheck8_any (w := w2) ⟨dot, ⟨da, dn, dc⟩, kd, id, ref, text, ⟨ga, gn, gc⟩, st⟩ IN2.out.at_.deps IN2.out.at_.gone IN2.out.runs (show D.length ≤ 1000000 by omega) (show G.length ≤ 1000000 by omega) (show text.size ≤ 1000000 by omega))
    have DLN : Hid (D.length ≤ 1000000000) := Lib.hid (by omega)
    clear LNS
    rcases eq_dot dot d with rfl | ⟨hne, h1⟩ | ⟨hne, h1, h2⟩
    rotate_left
    · have hkj : k < j := by
        rcases Nat.lt_or_ge k j with h | h
        · exact h
        · obtain rfl : k = j := by omega
          have h3 := HX.out.symm.trans HJ.out.1
          injection h3 with h3
          have h4 := HJ.out.2.1
          rw [← h3] at h4
          exact absurd h4 hne
      clear hne
      go_wp2_with fail
      go_roundw
      case rel => exact ⟨k + 1, bs, by go_num, rfl, by omega, K2.out⟩
      case measure => simp [intOf] <;> omega
    · have hkj : k < j := by
        rcases Nat.lt_or_ge k j with h | h
        · exact h
        · obtain rfl : k = j := by omega
          have h3 := HX.out.symm.trans HJ.out.1
          injection h3 with h3
          have h4 := HJ.out.2.1
          rw [← h3] at h4
          exact absurd h4 hne
      clear hne
      go_wp2_with fail
      go_roundw
      case rel => exact ⟨k + 1, bs, by go_num, rfl, by omega, K2.out⟩
      case measure => simp [intOf] <;> omega
    · obtain ⟨c8, hc8⟩ : ∃ c, opC ⟨dot, ⟨da, dn, dc⟩, kd, id, ref, text, ⟨ga, gn, gc⟩, st⟩ D G = c := ⟨_, rfl⟩
      rw [hc8] at HC8
      by_cases hz : c8 = 0
      case neg =>
        have hkj : k < j := by
          rcases Nat.lt_or_ge k j with h | h
          · exact h
          · obtain rfl : k = j := by omega
            have h3 := HX.out.symm.trans HJ.out.1
            injection h3 with h3
            have h4 := HJ.out.2.2.1
            rw [← h3] at h4
            exact absurd (hc8.symm.trans h4) hz
        have hz1 : (c8 == 0) = false := beq_eq_false_iff_ne.2 hz
        clear hc8
        go_wp2_with (go_at_call 53; refine HC8.out.mono ?_; rintro r w3 ⟨rfl, hk3⟩)
        go_roundw
        case rel => exact ⟨k + 1, bs, by go_num, rfl, by omega, K2.out.trans hk3 (fun _ _ h => h)⟩
        case measure => simp [intOf] <;> omega
      subst hz
      have HC0 := Lib.hid hc8
      clear hc8
      go_upto_region 8 with (go_at_call 53; refine HC8.out.mono ?_; rintro r w3 ⟨rfl, hk3⟩)
      have K3 := Lib.hid (K2.out.trans hk3 (fun _ _ h => h))
      have lo := (hk3.blk (fun h => h) A4.out).lt
      have ld := (hk3.blk (fun h => h) BX2.out).lt
      have b0 := cell_grown (w := w3) lo (hk3.cell x0)
      have b1 := cell_grown (w := w3) lo (hk3.cell x1)
      have b2 := cell_grown (w := w3) lo (hk3.cell x2)
      have d0 := cell_grown (w := w3) ld (hk3.cell y0)
      have HG := Lib.hid (fun (w' : World) (hg : Grew w3 w') => rget_grew ((HH2.out.kept hk3).kept hg.kept) (by have := hHl2.out; omega) dot.site)
      have HCV := Lib.hid (fun (w' : World) (hg : Grew w3 w') => rcovers_grew ((HH2.out.kept hk3).kept hg.kept) ((IN2.out.at_.deps.kept hk3).kept hg.kept) (by have := hHl2.out; omega) DLN.out)
      rw [GV.out] at HG
      simp only at HCV
      clear x0 x1 x2 x3 x4 x5 x6 x7 x8 x9 x10 y0 y1 hk3 lo ld HC8
      by_cases hs : dot.seq = gv + 1
      case neg =>
        have hs1 : (dot.seq == gv + 1) = false := beq_eq_false_iff_ne.2 hs
        have hs2 : (dot.seq != gv + 1) = true := by simpa using hs
        refine wp_region_quiet_grown (by assumption) (by kernel_rfl) ?_
        repeat (go_big_quiet_step (first
          | (go_at_call 21; exact grown_call HG.out _ _)
          | (go_at_call 20; exact grown_call HCV.out _ _)))
        refine wpQuiet_nil ?_
        intro _ hw2
        obtain ⟨⟨nq, osq⟩, hw3⟩ := hw2
        subst hw3
        go_wp2_with fail
        go_ret
        exact ⟨rfl, (K0.out.trans K3.out (fun _ _ h => h)).trans (Grew.grown _ _).kept (fun _ _ h => h)⟩
      case pos =>
        have hs1 : (dot.seq == gv + 1) = true := beq_iff_eq.2 hs
        have hs2 : (dot.seq != gv + 1) = false := by simpa using hs
        obtain ⟨cb, hcb⟩ : ∃ t, decide (coversV H D) = t := ⟨_, rfl⟩
        rw [hcb] at HCV
        have CB := Lib.hid hcb
        have HSQ := Lib.hid hs
        clear hcb hs
        cases cb
        · refine wp_region_quiet_grown (by assumption) (by kernel_rfl) ?_
          repeat (go_big_quiet_step (first
            | (go_at_call 21; exact grown_call HG.out _ _)
            | (go_at_call 20; exact grown_call HCV.out _ _)))
          refine wpQuiet_nil ?_
          intro _ hw2
          obtain ⟨⟨nq, osq⟩, hw3⟩ := hw2
          subst hw3
          go_wp2_with fail
          go_ret
          exact ⟨rfl, (K0.out.trans K3.out (fun _ _ h => h)).trans (Grew.grown _ _).kept (fun _ _ h => h)⟩
        · have hkj : k < j := by
            rcases Nat.lt_or_ge k j with h | h
            · exact h
            · obtain rfl : k = j := by omega
              have h3 := HX.out.symm.trans HJ.out.1
              injection h3 with h3
              have h4 := HJ.out.2.2.2
              rw [← h3] at h4
              exact absurd (⟨by rw [GV.out]; exact HSQ.out, of_decide_eq_true CB.out⟩ : Ent.can H dot D) h4
          refine wp_region_quiet_grown (by assumption) (by kernel_rfl) ?_
          repeat (go_big_quiet_step (first
            | (go_at_call 21; exact grown_call HG.out _ _)
            | (go_at_call 20; exact grown_call HCV.out _ _)))
          refine wpQuiet_nil ?_
          intro _ hw2
          obtain ⟨⟨nq, osq⟩, hw3⟩ := hw2
          subst hw3
          go_wp2_with fail
          go_roundw
          case rel => exact ⟨k + 1, true, by go_num, rfl, by omega, K3.out.trans (Grew.grown _ _).kept (fun _ _ h => h)⟩
          case measure => simp [intOf] <;> omega
end Go.Proofs.YtaaeomapbigfgaaGreat
namespace Go.Proofs.YtaaeomapbigfgaaGreat
open Go.RowKit Go.Proofs.YtaaeomapbigfgaaGreat.St
theorem cdrain_len2 : ∀ (n : Nat) (s : CQ), (cdrain n s).W.length + (cdrain n s).O.length = s.W.length + s.O.length
  | 0, _ => rfl
  | n + 1, s => by
    unfold cdrain
    cases h1 : s.W.findIdx? (fun k => decide (Ent.can s.V k.1.dot k.2.1)) with
    | none => rfl
    | some i =>
      cases h2 : s.W[i]? with
      | none => simp only [h2]
      | some e =>
        simp only [h2]
        rw [cdrain_len2 n]
        have hil := (List.getElem?_eq_some_iff.1 h2).1
        show (s.W.eraseIdx i).length + (s.O ++ [e]).length = _
        rw [List.length_eraseIdx, if_pos hil, List.length_append, List.length_singleton]
        omega
theorem coffer_len2 (hold c : Int) (s : CQ) (e : Cont) : (coffer hold c s e).2.W.length + (coffer hold c s e).2.O.length ≤ s.W.length + s.O.length + 1 := by
  unfold coffer
  split
  · exact Nat.le_succ _
  · split
    · exact Nat.le_succ _
    · split
      · show (cdrain _ _).W.length + (cdrain _ _).O.length ≤ _
        rw [cdrain_len2]
        show s.W.length + (s.O ++ [e]).length ≤ _
        simp
        omega
      · split
        · show (s.W ++ [e]).length + s.O.length ≤ _
          simp
          omega
        · show ((s.W ++ [e]).eraseIdx _).length + s.O.length ≤ _
          have := List.length_eraseIdx_le (s.W ++ [e]) (cgr (s.W ++ [e]) (s.W.length + 1))
          simp at this ⊢
          omega
theorem opC_ok2 {x : OpV} {D : List Dot} {G : List Run} (h : opC x D G = 0) : x.dot.Ok := by
  unfold opC at h
  by_cases hp : opOk x D G
  · exact hp.1
  · rw [if_neg hp] at h
    exact absurd h (by decide)
/-- the contents of a step's operation -/
def stC (s : StV) : Cont := ({ s.e.v with deps := ⟨none, 0, 0⟩, gone := ⟨none, 0, 0⟩ }, s.e.D, s.e.G)
noncomputable def stK (s : StV) : Int := opC s.e.v s.e.D s.e.G
/-- what an offered step's answer and the Queue behind it are -/
structure Offered (P : Key → Prop) (hold : Int) (C : CQ) (s : StV) (a c : Int) (C' : CQ) : Prop where
  ord : OrdQ P hold C'.V C'.W
  chain : Chain C.V C'.O C'.V
  ans : (c = 10 ∧ a = 0) ∨ (c = 0 ∧ 1 ≤ a ∧ a ≤ 4)
  has : a = 1 → hasV C'.V s.e.v.dot
  len : C'.W.length + C'.O.length ≤ C.W.length + 1
theorem One.offered {b0 : Nat} {w : World} {g : Nat} {hold : Int} {C : CQ} {hv : Value} {H : List Dot} {s : StV} {P Q : Key → Prop} (h : One b0 w g hold C hv H) (hb0 : b0 ≤ w.heap.size) (hs : OpIn w s.e) (hn : ¬ bigP s.e.v) (hO : C.O = []) (hq : OrdQ P hold C.V C.W) (hPQ : ∀ k, P k → Q k) (hQ : stK s = 0 → Q (s.e.v.dot, s.e.D)) (hh : hold ≤ 256) :
    Calls Tryz.prog 13 #[.pointer (some ⟨g, 0, none⟩), .agg (opA s.e.v)] w fun r w' => ∃ a c C', r = .returned (.tuple #[.int .i64 a, .int .i64 c]) ∧ Offered Q hold C s a c C' ∧ One b0 w' g hold C' hv H ∧ Kept (fun b => b0 ≤ b) w w' := by
  have hl := hs.lens hn
  have hwl := hq.len
  refine (h.offer hb0 hs.at_.deps hs.at_.gone (by omega) (by omega) (by omega) (by rw [hO]; exact Nat.zero_le _) (fun w' hk => check_op s.e.v (hs.kept hk).at_.deps (hs.kept hk).at_.gone hs.runs (by omega) (by omega) hs.text) opC_ok2).mono ?_
  rintro r w' ⟨rfl, h1, hk⟩
  have hq2 : OrdQ Q hold C.V C.W := ⟨hq.p.mono hPQ, hq.no, hq.len⟩
  obtain ⟨o1, o2, o3, o4⟩ := coffer_ord (P := Q) (c := stK s) (e := stC s) hq2 hO (fun hc => ⟨show s.e.v.dot.Ok from opC_ok2 (x := s.e.v) (D := s.e.D) (G := s.e.G) hc, hQ hc⟩)
  refine ⟨_, _, _, rfl, ⟨o1, o2, ?_, o4, ?_⟩, h1, hk⟩
  · rcases o3 with ⟨e1, e2⟩ | ⟨e1, e2, e3⟩
    · refine .inl ⟨?_, e2⟩
      rcases opC_two s.e.v s.e.D s.e.G with h0 | h0
      · exact absurd h0 e1
      · exact h0
    · exact .inr ⟨e1, e2, e3⟩
  · have := coffer_len2 hold (stK s) C (stC s)
    rw [hO, List.length_nil] at this
    exact this
/-- that a step of the first n was offered and taken for right -/
def Was (L : List StV) (n : Nat) (k : Key) : Prop := ∃ j s, j < n ∧ L[j]? = some s ∧ s.e.v.dot = k.1 ∧ s.e.D = k.2 ∧ stK s = 0
theorem SlAt.pre {α : Type} {E : Enc α} {w : World} {a : Option Addr} {c n : Nat} {L : List α} (h : SlAt E w (.slice a L.length c) L) (hn : n ≤ L.length) : SlAt E w (.slice a n c) (L.take n) := by
  rcases h with ⟨h, hL⟩ | ⟨x, d, h, h1, h2, h3, h4⟩
  · injection h with e1 e2 e3
    subst e1 e3
    have hn0 : n = 0 := by omega
    subst hn0
    exact .inl ⟨rfl, by simp⟩
  · injection h with e1 e2 e3
    subst e1 e3
    have hl : (L.take n).length = n := by rw [List.length_take]; omega
    refine .inr ⟨x, c, by rw [hl], by rw [hl]; omega, h2, fun hne => h3 (fun e => hne (by rw [e]; simp)), fun i y hy j u hu => h4 i y ?_ j u hu⟩
    rw [List.getElem?_take] at hy
    split at hy
    · exact hy
    · cases hy
/-- what Waits tells rises -/
theorem waits_strict {P : Key → Prop} {hold : Int} {C : CQ} {L : List Dot} (hq : OrdQ P hold C.V C.W) (hw : WaitsIs C L) {k : Nat} {x y : Dot} (hx : L[k]? = some x) (hy : L[k + 1]? = some y) : x.site < y.site ∨ (x.site = y.site ∧ x.seq < y.seq) := by
  have hnd : L.Nodup := (hw.1.nodup_iff).2 hq.p.nodup
  obtain ⟨h1, h2⟩ := List.getElem?_eq_some_iff.1 hx
  obtain ⟨h3, h4⟩ := List.getElem?_eq_some_iff.1 hy
  have hs := List.pairwise_iff_getElem.1 hw.2 k (k + 1) h1 h3 (by omega)
  have hn := List.pairwise_iff_getElem.1 hnd k (k + 1) h1 h3 (by omega)
  rw [h2, h4] at hs hn
  have hs2 : ¬ y.id.lt x.id := hs
  unfold ID.lt Dot.id at hs2
  simp only at hs2
  rcases Classical.em (x.site = y.site) with e | e
  · right
    refine ⟨e, ?_⟩
    rcases Classical.em (x.seq = y.seq) with e2 | e2
    · exact absurd (by rw [Dot.ext_iff]; exact ⟨e, e2⟩) hn
    · omega
  · left
    omega
theorem waits_mem {P : Key → Prop} {hold : Int} {C : CQ} {L : List Dot} (hq : OrdQ P hold C.V C.W) (hw : WaitsIs C L) {d : Dot} (hd : d ∈ L) : ¬ hasV C.V d ∧ ∃ D, P (d, D) ∧ ¬ Ent.can C.V d D := by
  obtain ⟨c, hc, rfl⟩ := List.mem_map.1 ((hw.1.mem_iff).1 hd)
  exact ⟨hq.p.nohas c hc, c.2.1, (hq.p.mem c hc).2, hq.no c hc⟩
theorem waits_len {P : Key → Prop} {hold : Int} {C : CQ} {L : List Dot} (hq : OrdQ P hold C.V C.W) (hw : WaitsIs C L) : L.length = C.W.length ∧ (L.length : Int) ≤ hold := by
  have h := hw.1.length_eq
  rw [List.length_map] at h
  exact ⟨h, by rw [h]; exact hq.len⟩
end Go.Proofs.YtaaeomapbigfgaaGreat
