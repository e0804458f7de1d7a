/- hearsaylaw13.CausalOwn, walked (under way). -/
import Derived.Test.YtaaeomapbigfgaaW22
import Derived.Test.YtaaeomapbigfgaaW23
import Derived.Test.YtaaeomapbigfgaaW24
import Derived.Test.YtaaeomapbigfgaaW35
import Derived.Test.YtaaeomapbigfgaaW38
import Derived.Deep.DeepCutAuto
namespace Go.Proofs.Ytaaeomapbigfgaa
open Go.RowKit Go.Proofs.Ytaaeomapbigfgaa.St
namespace causalOwn
theorem cdrain_len : ∀ (n : Nat) (s : CQ), (cdrain n s).W.length + (cdrain n s).O.length = s.W.length + s.O.length
  | 0, _ => rfl
  | n + 1, s => by
    unfold cdrain
    cases h1 : s.W.findIdx? (fun k => decide (Ent.can s.V k.1.dot k.2.1)) with
    | none => rfl
    | some i =>
      cases h2 : s.W[i]? with
      | none => simp only [h2]
      | some e =>
        simp only [h2]
        rw [cdrain_len n]
        have hil := (List.getElem?_eq_some_iff.1 h2).1
        show (s.W.eraseIdx i).length + (s.O ++ [e]).length = _
        rw [List.length_eraseIdx, if_pos hil, List.length_append, List.length_singleton]
        omega
theorem coffer_len (hold c : Int) (s : CQ) (e : Cont) : (coffer hold c s e).2.W.length + (coffer hold c s e).2.O.length ≤ s.W.length + s.O.length + 1 := by
  unfold coffer
  split
  · exact Nat.le_succ _
  · split
    · exact Nat.le_succ _
    · split
      · show (cdrain _ _).W.length + (cdrain _ _).O.length ≤ _
        rw [cdrain_len]
        show s.W.length + (s.O ++ [e]).length ≤ _
        simp
        omega
      · split
        · show (s.W ++ [e]).length + s.O.length ≤ _
          simp
          omega
        · show ((s.W ++ [e]).eraseIdx _).length + s.O.length ≤ _
          have := List.length_eraseIdx_le (s.W ++ [e]) (cgr (s.W ++ [e]) (s.W.length + 1))
          simp at this ⊢
          omega
/-- what is asked of a step -/
structure StOk (w : World) (s : StV) : Prop where
  at_ : s.e.At w
  runs : ∀ r ∈ s.e.G, r.In
  text : s.e.v.text.size ≤ maxLen
  small : ¬ bigP s.e.v
theorem StOk.lens {w : World} {s : StV} (h : StOk w s) : s.e.D.length ≤ 3000 ∧ s.e.G.length ≤ 3000 := by
  have h1 := h.small
  have e1 : s.e.v.deps.n = s.e.D.length := by obtain ⟨_, _, he, _⟩ := h.at_.deps.sl; injection he
  have e2 : s.e.v.gone.n = s.e.G.length := by obtain ⟨_, _, he, _⟩ := h.at_.gone.sl; injection he
  unfold bigP at h1
  omega
theorem StOk.kept {w w' : World} {s : StV} (h : StOk w s) (hk : Kept (fun _ => False) w w') : StOk w' s := ⟨⟨h.at_.deps.kept hk, h.at_.gone.kept hk⟩, h.runs, h.text, h.small⟩
theorem opC_ok {x : OpV} {D : List Dot} {G : List Run} (h : opC x D G = 0) : x.dot.Ok := by
  unfold opC at h
  by_cases hp : opOk x D G
  · exact hp.1
  · rw [if_neg hp] at h
    exact absurd h (by decide)
/-- what a step's operation does to a queue's contents -/
noncomputable def offC (hold : Int) (C : CQ) (s : StV) : CQ := (coffer hold (opC s.e.v s.e.D s.e.G) C ({ s.e.v with deps := ⟨none, 0, 0⟩, gone := ⟨none, 0, 0⟩ }, s.e.D, s.e.G)).2
theorem offer_step {b0 : Nat} {w : World} {gq gp : Nat} {hold : Int} {Cq Cp : CQ} {kv : Value} {R K : List Ent} {s : StV} (h : Own3 b0 w gq gp hold Cq Cp kv R K) (hb : b0 ≤ w.heap.size) (hs : StOk w s) (hl : Cq.W.length + Cq.O.length ≤ 10000) :
    Calls Try.prog 8 #[.pointer (some ⟨gq, 0, none⟩), .agg (opA s.e.v)] w fun r w' => (∃ a c : Int, r = .returned (.tuple #[.int .i64 a, .int .i64 c])) ∧ Own3 b0 w' gq gp hold (offC hold Cq s) Cp kv R K ∧ Kept (fun b => b0 ≤ b) w w' := by
  have hll := hs.lens
  refine (h.offer hb hs.at_.deps hs.at_.gone (by omega) (by omega) (by omega) (by omega) (fun w' hk => check_op s.e.v (hs.kept hk).at_.deps (hs.kept hk).at_.gone hs.runs (by omega) (by omega) hs.text) opC_ok).mono ?_
  rintro r w' ⟨a, rfl, _, h1, hk⟩
  exact ⟨⟨a, _, rfl⟩, h1, hk⟩
theorem first {w w1 w2 : World} {gq gp : Nat} {hold : Int} {v1 v2 : Value} (hq : QBox w1 gq hold ⟨[], [], []⟩ (newB w w1) v1 (.slice none 0 0) (.slice none 0 0)) (hk1 : Kept (fun _ => False) w w1) (hk : Kept (fun _ => False) w1 w2) (hp : QBox w2 gp hold ⟨[], [], []⟩ (newB w1 w2) v2 (.slice none 0 0) (.slice none 0 0)) :
    Own3 w.heap.size w2 gq gp hold ⟨[], [], []⟩ ⟨[], [], []⟩ (.slice none 0 0) [] [] :=
  ⟨_, _, _, _, _, _, _, _, _, _, hq.keep hk (fun _ _ h => h), hp, rfl, rfl, ⟨fun b hb hp => by have := hb.2; have := hp.1; omega, fun b hb => by have := hk1.size; rcases hb with h | h; exact h.1; have := h.1; omega, World.ownsRow_nil _ _ _ _, List.Sublist.refl _, fun b hb => by simp [Value.ownBlock] at hb, by simp, List.Pairwise.nil⟩⟩
theorem wrap_small {n : Nat} (h : n ≤ 1000001) : IntKind.i64.wrap (n : Int) = n := by rw [IntKind.wrap_i64]; omega
def Post (w : World) (r : Ending) (w' : World) : Prop := r = .returned (.bool true) ∧ Kept (fun _ => False) w w'
set_option maxRecDepth 100000 in
set_option maxHeartbeats 16000000 in
theorem small {w : World} {hold : Int} {lv : Value} {L : List StV} (hL : SlAt stE w lv L) (hS : ∀ s ∈ L, StOk w s) (hLl : L.length ≤ 300) (hh : newC hold [] = 0) :
    Calls Try.prog 4 #[.int .i64 hold, lv] w (Post w) := by
  have HMU := Lib.hid (much_any hL)
  have hno : decide (muchP L) = false := decide_eq_false (fun h => by
    rcases h with h | ⟨s, hs, hb⟩
    · omega
    · exact (hS s hs).small hb)
  rw [hno] at HMU
  obtain ⟨la, lc, rfl, _, _⟩ := hL.sl
  have HL := Lib.hid hL
  have HS := Lib.hid hS
  have HN := Lib.hid (fun (w' : World) => new_box (w := w') (hold := hold) (SlAt.nil w') (by simp) hh)
  clear hno hL hS hh
  go_enter Try.func4, Try.ntmps4
  go_upto_region 3 with (go_at_call 13; refine HMU.out.mono ?_; rintro r w0 ⟨rfl, hk0⟩)
  go_upto_region 4 with (go_at_call 7; refine (HN.out w0).mono ?_; rintro r w1 ⟨hk1, gq, v1, rfl, hq1⟩)
  go_upto_region 9 with (go_at_call 7; refine (HN.out w1).mono ?_; rintro r w2 ⟨hk2, gp, v2, rfl, hp2⟩)
  have F0 := Lib.hid (first hq1 hk1 hk2 hp2)
  have hz0 := hk0.size
  have hz1 := hk1.size
  have hz2 := hk2.size
  have KW0 := Lib.hid ((hk0.trans hk1 (fun _ _ h => h)).trans hk2 (fun _ _ h => h))
  clear hq1 hp2 hk0 hk1 hk2 HMU HN
  go_upto_block 0 with fail
  go_cut [9] (fun kv wx => ∃ (C : CQ) (R K : List Ent), Own3 w0.heap.size wx gq gp hold C C kv R K ∧ R.length ≤ 120000 ∧ Kept (fun _ => False) w wx ∧ w0.heap.size ≤ wx.heap.size)
  case first =>
    go_wp2_with fail
    go_loopw [9, 10] (fun kv iv wr => ∃ (n : Nat) (C : CQ) (R K : List Ent), iv = .int .i64 n ∧ n ≤ L.length ∧ Own3 w0.heap.size wr gq gp hold C C kv R K ∧ C.W.length + C.O.length ≤ n ∧ R.length ≤ 400 * n ∧ Kept (fun _ => False) w wr ∧ w0.heap.size ≤ wr.heap.size) (fun _ iv _ => L.length - (intOf iv).toNat)
    case atStart => exact ⟨0, _, [], [], rfl, Nat.zero_le _, F0.out, Nat.le_refl _, Nat.zero_le _, KW0.out, by omega⟩
    case round =>
      clear F0 KW0
      obtain ⟨n, C, R, K, rfl, hn, hO, hlen, hR, hk, hzr⟩ := hrel
      have hn0 : (0 : Int) ≤ n := by omega
      by_cases hlt : n < L.length
      case neg =>
        have hltI : ¬ (n : Int) < L.length := by omega
        have HO := Lib.hid hO
        clear hO
        go_wp2_with fail
        go_meet
        case rel => exact ⟨C, R, K, HO.out, by omega, hk, hzr⟩
      case pos =>
        have hltI : (n : Int) < L.length := by omega
        obtain ⟨x, hx⟩ := get_of_lt hlt
        obtain ⟨g, o, c', e1, hcs⟩ := SlAt.step HL.out (by omega)
        injection e1 with e2 _ e3
        subst e2 e3
        obtain ⟨hc1, _, hc3⟩ := hcs n x hx
        have SX := Lib.hid (HS.out x (List.mem_of_getElem? hx))
        have CW := Lib.hid hc1
        have TW := Lib.hid hc3
        have CSr := Lib.hid (fun j u hu => hk.cell (hc1 j u hu))
        have HOF1 := Lib.hid (offer_step (s := x) hO hzr (SX.out.kept hk) (by omega))
        have KW := Lib.hid hk
        clear hcs hx hc1 hc3 hO hk
        go_upto_region 15 with (first
          | (refine wpList_load_at (E := entE) (z := x.e) rfl 34 _ rfl rfl CS3.out Try.underlying34 rfl size_op ?_)
          | (refine wpList_load_at (E := entE) (z := x.e) rfl 34 _ rfl rfl CSr.out Try.underlying34 rfl size_op ?_)
          | (go_at_call 8; refine HOF2.out.mono ?_; rintro r w4 ⟨⟨a4, c4, rfl⟩, h4, hk4⟩)
          | (go_at_call 8; refine HOF1.out.mono ?_; rintro r w3 ⟨⟨a3, c3, rfl⟩, h3, hk3⟩; have K3 := Lib.hid (KW.out.trans hk3 (fun b hb h => by omega)); have CS3 := Lib.hid (fun j u hu => K3.out.cell (CW.out j u hu)); have Z3 := Lib.hid (Nat.le_trans hzr hk3.size); have HOF2 := Lib.hid (offer_step (s := x) h3.swap Z3.out (SX.out.kept K3.out) (by omega)); clear h3 hk3))
        have H4 := Lib.hid h4.swap
        have K4 := Lib.hid (K3.out.trans hk4 (fun b hb h => by omega))
        have Z4 : w0.heap.size ≤ w4.heap.size := Nat.le_trans Z3.out hk4.size
        clear h4 hk4 HOF1 HOF2 CSr CS3 K3 Z3 KW
        go_upto_region 17 with (first
          | (go_at_call 12; refine H4.out.waits.mono ?_; rintro r w5 ⟨v5, L5, rfl, hw5, hl5, ho5, hk5⟩)
          | (go_at_call 11; refine (H4.out.keep hk5).vector.mono ?_; rintro r w6 ⟨v6, rfl, hl6, ho6, hk6⟩))
        have hv5 : ∀ b, v5.ownBlock = some b → b < w5.heap.size := fun b hb => by obtain ⟨cs, hc⟩ := owns_spared ho5 b hb; exact hc.lt
        have hv6 : ∀ b, v6.ownBlock = some b → w5.heap.size ≤ b := fun b hb => owns_new ho6 b hb
        obtain ⟨a5, c5, rfl⟩ := owns_sl ho5
        obtain ⟨a6, c6, rfl⟩ := owns_sl ho6
        have R5 := Lib.hid (owns_keep ho5 hk6 (fun _ _ h => h))
        have R6 := Lib.hid ho6
        have K6 := Lib.hid (hk5.trans hk6 (fun _ _ h => h))
        have N5 := Lib.hid (owns_new ho5)
        have HV5 := Lib.hid hv5
        have HV6 := Lib.hid hv6
        have z45 := hk5.size
        clear ho5 ho6 hk5 hk6 hw5 hv5 hv6
        generalize hm6 : (offC hold C x).V.length = m6 at *
        clear hm6
        generalize hm5 : L5.length = m5 at *
        have M5 := Lib.hid hm5
        clear hm5
        generalize wr = wr0 at *
        go_upto_block 2 with fail
        go_cut [13] (fun _ wx => (∃ D5 : List Dot, wx.ownsRow w4.heap.size 27 2 (.slice a5 m5 c5) m5 (dotE.flat D5)) ∧ (∃ D6 : List Dot, wx.ownsRow w5.heap.size 27 2 (.slice a6 m6 c6) m6 (dotE.flat D6)) ∧ Kept (fun _ => False) w4 wx)
        case first =>
          go_wp2_with fail
          go_loopw [13] (fun iv wr => ∃ (k : Nat) (D5 : List Dot), iv = .int .i64 k ∧ k ≤ m5 ∧ wr.ownsRow w4.heap.size 27 2 (.slice a5 m5 c5) m5 (dotE.flat D5) ∧ (∃ D6 : List Dot, wr.ownsRow w5.heap.size 27 2 (.slice a6 m6 c6) m6 (dotE.flat D6)) ∧ Kept (fun _ => False) w4 wr) (fun iv _ => m5 - (intOf iv).toNat)
          case atStart => exact ⟨0, L5, rfl, Nat.zero_le _, R5.out, ⟨_, R6.out⟩, K6.out⟩
          case round =>
            obtain ⟨k, D5, rfl, hk5, hr5, hr6, hkk⟩ := hrel
            have hk0 : (0 : Int) ≤ k := by omega
            by_cases hkm : k < m5
            case neg =>
              have hkI : ¬ (k : Int) < m5 := by omega
              have A5 := Lib.hid hr5
              have A6 := Lib.hid hr6
              clear hr5 hr6
              go_wp2_with fail
              go_meet
              case rel => exact ⟨⟨_, A5.out⟩, A6.out, hkk⟩
            case pos =>
              have hkI : (k : Int) < m5 := by omega
              obtain ⟨hDl, ⟨_, hno⟩ | ⟨g5, cap5, hv2, hg5, hO5⟩⟩ := own_of (E := dotE) hr5
              · rw [hno] at hDl; simp at hDl; omega
              injection hv2 with e1 _ e2
              subst e1 e2
              have HO5 := Lib.hid hO5
              have A6 := Lib.hid hr6
              have HKL := Lib.hid (show k < D5.length by omega)
              have KK := Lib.hid hkk
              have HDL := Lib.hid hDl
              have SZD : Hid ((Try.prog.info? 27).map (·.size) = some dotE.k) := Lib.hid (by kernel_rfl)
              clear hr5 hr6 hkk hO5 hDl
              go_wp2_with (refine wpList_store_elem (E := dotE) rfl 27 (.tmp 83) (.tmp 82) rfl ⟨910, 0⟩ (i := k) rfl rfl HO5.out HKL.out SZD.out ?_; intro w7 hO7 hk7)
              go_roundw
              case rel =>
                have hl : (D5.set k ⟨910, 0⟩).length = m5 := by rw [List.length_set]; exact HDL.out
                have hrow := hO7.owns hg5
                rw [hl] at hrow
                obtain ⟨D6, hr6⟩ := A6.out
                refine ⟨k + 1, D5.set k ⟨910, 0⟩, by go_num, by omega, hrow, ⟨D6, owns_keep hr6 hk7 (fun b hb e => by have h1 := HV6.out b hb; have h2 := HV5.out g5 rfl; omega)⟩, KK.out.trans hk7 (fun b hb e => by omega)⟩
              case measure => simp [intOf] <;> omega
        case rest =>
          obtain ⟨⟨D5, hr5⟩, ⟨D6, hr6⟩, hkk⟩ := hcut
          clear R5 R6 K6
          have R5 := Lib.hid hr5
          have R6 := Lib.hid hr6
          have K6 := Lib.hid hkk
          clear hr5 hr6 hkk
          go_upto_block 4 with fail
          go_cut [14] (fun _ wx => (∃ D5 : List Dot, wx.ownsRow w4.heap.size 27 2 (.slice a5 m5 c5) m5 (dotE.flat D5)) ∧ (∃ D6 : List Dot, wx.ownsRow w5.heap.size 27 2 (.slice a6 m6 c6) m6 (dotE.flat D6)) ∧ Kept (fun _ => False) w4 wx)
          case first =>
            go_wp2_with fail
            go_loopw [14] (fun iv wr => ∃ (k : Nat) (D6 : List Dot), iv = .int .i64 k ∧ k ≤ m6 ∧ wr.ownsRow w5.heap.size 27 2 (.slice a6 m6 c6) m6 (dotE.flat D6) ∧ (∃ D5 : List Dot, wr.ownsRow w4.heap.size 27 2 (.slice a5 m5 c5) m5 (dotE.flat D5)) ∧ Kept (fun _ => False) w4 wr) (fun iv _ => m6 - (intOf iv).toNat)
            case atStart => exact ⟨0, D6, rfl, Nat.zero_le _, R6.out, ⟨_, R5.out⟩, K6.out⟩
            case round =>
              clear R5 R6 K6
              obtain ⟨k, D6, rfl, hk5, hr6, hr5, hkk⟩ := hrel
              have hk0 : (0 : Int) ≤ k := by omega
              by_cases hkm : k < m6
              case neg =>
                have hkI : ¬ (k : Int) < m6 := by omega
                have A5 := Lib.hid hr5
                have A6 := Lib.hid hr6
                clear hr5 hr6
                go_wp2_with fail
                go_meet
                case rel => exact ⟨A5.out, ⟨_, A6.out⟩, hkk⟩
              case pos =>
                have hkI : (k : Int) < m6 := by omega
                obtain ⟨hDl, ⟨_, hno⟩ | ⟨g5, cap5, hv2, hg5, hO5⟩⟩ := own_of (E := dotE) hr6
                · rw [hno] at hDl; simp at hDl; omega
                injection hv2 with e1 _ e2
                subst e1 e2
                have HO5 := Lib.hid hO5
                have A5 := Lib.hid hr5
                have HKL := Lib.hid (show k < D6.length by omega)
                have KK := Lib.hid hkk
                have HDL := Lib.hid hDl
                have SZD : Hid ((Try.prog.info? 27).map (·.size) = some dotE.k) := Lib.hid (by kernel_rfl)
                clear hr5 hr6 hkk hO5 hDl
                go_wp2_with (refine wpList_store_elem (E := dotE) rfl 27 (.tmp 93) (.tmp 92) rfl ⟨911, 0⟩ (i := k) rfl rfl HO5.out HKL.out SZD.out ?_; intro w7 hO7 hk7)
                go_roundw
                case rel =>
                  have hl : (D6.set k ⟨911, 0⟩).length = m6 := by rw [List.length_set]; exact HDL.out
                  have hrow := hO7.owns hg5
                  rw [hl] at hrow
                  obtain ⟨D5, hr5⟩ := A5.out
                  refine ⟨k + 1, D6.set k ⟨911, 0⟩, by go_num, by omega, hrow, ⟨D5, owns_keep hr5 hk7 (fun b hb e => by have h1 := HV6.out g5 rfl; have h2 := HV5.out b hb; omega)⟩, KK.out.trans hk7 (fun b hb e => by omega)⟩
                case measure => simp [intOf] <;> omega
          case rest =>
            clear R5 R6 K6
            obtain ⟨⟨D5, hr5⟩, ⟨D6, hr6⟩, hkk⟩ := hcut
            obtain ⟨hD5, _⟩ := own_of (E := dotE) hr5
            obtain ⟨hD6, _⟩ := own_of (E := dotE) hr6
            have hm5b : m5 ≤ 100000 := hl5
            have hm6b : m6 ≤ 1000 := hl6
            clear hl5 hl6 M5
            subst hD5 hD6
            have hz4c := hkk.size
            have LD := Lib.hid (lit_dot wc 912 0)
            have R5 := Lib.hid (hr5.alloc (.cells #[.int .i64 912, .int .i64 0] 27))
            have R6 := Lib.hid (hr6.alloc (.cells #[.int .i64 912, .int .i64 0] 27))
            have KC := Lib.hid (hkk.alloc (.cells #[.int .i64 912, .int .i64 0] 27))
            clear hr5 hr6 hkk
            go_upto_region 26 with (at_builtin; (refine wpList_append_keeps dotE rfl (.tmp 94) (.tmp 96) 28 rfl w4.heap.size 27 (.agg #[.int .i64 0, .int .i64 0]) 16 Try.underlying28 info_dot rfl (by decide) rfl rfl R5.out LD.out (by omega) (by have := KC.out.size; omega) ?_); (intro v7 w7 ho7 hg7))
            obtain ⟨a7, c7, rfl⟩ := owns_sl ho7
            have hg7k := grow1_kept hg7
            have K7 := KC.out.trans hg7k (fun b hb e => by have := N5.out b e; omega)
            have R7 := owns_keep R6.out hg7k (fun b hb e => by have h1 := HV6.out b hb; have h2 := HV5.out b e; omega)
            have LD7 := Lib.hid (lit_dot w7 913 0)
            have R8 := Lib.hid ((owns_lower R7 z45).alloc (.cells #[.int .i64 913, .int .i64 0] 27))
            have K8 := Lib.hid (K7.alloc (.cells #[.int .i64 913, .int .i64 0] 27))
            clear R5 R6 KC LD ho7 hg7 hg7k K7 R7
            go_upto_region 27 with (at_builtin; (refine wpList_append_keeps dotE rfl (.tmp 98) (.tmp 100) 29 rfl w4.heap.size 27 (.agg #[.int .i64 0, .int .i64 0]) 16 Try.underlying29 info_dot rfl (by decide) rfl rfl R8.out LD7.out (by omega) K8.out.size ?_); (intro v8 w8 ho8 hg8))
            obtain ⟨a8, c8, rfl⟩ := owns_sl ho8
            have K9 := K8.out.trans (grow1_kept hg8) (fun b hb e => by have h1 := HV6.out b e; omega)
            have H9 := Lib.hid (H4.out.keep K9)
            have KW9 := Lib.hid (K4.out.trans K9 (fun _ _ h => h))
            have Z9 : Hid (w0.heap.size ≤ w8.heap.size) := Lib.hid (Nat.le_trans Z4 K9.size)
            clear R8 K8 LD7 ho8 hg8 K9 H4 K4 HV5 HV6 N5
            have HW1 := Lib.hid H9.out.waits
            have hD5I : (D5.length : Int) ≤ 100000 := by omega
            have hD6I : (D6.length : Int) ≤ 1000 := by omega
            go_upto_region 29 with (first
              | (go_at_call 15; refine HSM.out.mono ?_; rintro r w14 ⟨rfl, q14, rfl⟩)
              | (go_at_call 11; refine HV2.out.mono ?_; rintro r w13 ⟨vd, rfl, hld, hod, hkd⟩; have K13 := Lib.hid (K12.out.trans hkd (fun _ _ h => h)); have HSM := Lib.hid ((same_any ((owns_slAt (E := dotE) hoc').kept hkd) (owns_slAt (E := dotE) hod) (Nat.le_trans hld (by decide))).mono (R' := fun r w' => r = .returned (.bool true) ∧ ∃ q, w' = w13.drewN q) (fun r w' h => by rw [decide_eq_true rfl] at h; exact h)))
              | (go_at_call 11; refine HV1.out.mono ?_; rintro r w12 ⟨vc, rfl, hlc', hoc', hkc⟩; have K12 := Lib.hid (K11.out.trans hkc (fun _ _ h => h)); have HV2 := Lib.hid (H9.out.keep K12.out).swap.vector)
              | (go_at_call 14; refine HDT.out.mono ?_; rintro r w11 ⟨rfl, q11, rfl⟩; have K11 := Lib.hid (K10.out.drewN q11); have HV1 := Lib.hid (H9.out.keep K11.out).vector)
              | (go_at_call 12; refine HW2.out.mono ?_; rintro r w10 ⟨vb, Lb, rfl, hwb, hlb, hob, hkb⟩; obtain rfl := WaitsIs.one hwa hwb; have K10 := Lib.hid (Ka.out.trans hkb (fun _ _ h => h)); have HDT := Lib.hid ((dots_any ((owns_slAt (E := dotE) hoa).kept hkb) (owns_slAt (E := dotE) hob) (Nat.le_trans hla (by decide))).mono (R' := fun r w' => r = .returned (.bool true) ∧ ∃ q, w' = w10.drewN q) (fun r w' h => by rw [decide_eq_true rfl] at h; exact h)))
              | (go_at_call 12; refine HW1.out.mono ?_; rintro r w9 ⟨va, La, rfl, hwa, hla, hoa, hka⟩; have Ka := Lib.hid hka; have HW2 := Lib.hid (H9.out.keep hka).swap.waits))
            have H15 := Lib.hid (H9.out.keep (K13.out.drewN q14))
            have K15 := Lib.hid (KW9.out.trans (K13.out.drewN q14) (fun _ _ h => h))
            have Z15 : Hid (w0.heap.size ≤ (w13.drewN q14).heap.size) := Lib.hid (Nat.le_trans Z9.out (K13.out.drewN q14).size)
            have hlen2 : (offC hold C x).W.length + (offC hold C x).O.length ≤ n + 1 := Nat.le_trans (coffer_len _ _ _ _) (by omega)
            have LEN2 := Lib.hid hlen2
            generalize offC hold C x = C1 at *
            clear hlen2 HW1 HW2 HDT HV1 HV2 HSM K10 K11 K12 K13 Ka H9 KW9 Z9 hwa hwb hla hlb hoa hob hka hkb hlc' hoc' hkc hld hod hkd
            generalize w13.drewN q14 = w15 at *
            go_wp2_with fail
            go_loopw [9, 17] (fun kv iv wr => ∃ (k : Nat) (C2 : CQ) (R2 K2 : List Ent), iv = .int .i64 k ∧ k ≤ 400 ∧ Own3 w0.heap.size wr gq gp hold C2 C2 kv R2 K2 ∧ C2.W.length + C2.O.length ≤ n + 1 ∧ R2.length ≤ 400 * n + k ∧ Kept (fun _ => False) w wr ∧ w0.heap.size ≤ wr.heap.size) (fun _ iv _ => 400 - (intOf iv).toNat)
            case atStart => exact ⟨0, C1, R, K, rfl, Nat.zero_le _, H15.out, LEN2.out, hR, K15.out, Z15.out⟩
            case round =>
              clear H15 K15 Z15 LEN2
              obtain ⟨k, C2, R2, K2, rfl, hk4, hO2, hl2, hR2, hk2, hz2'⟩ := hrel
              have hk0 : (0 : Int) ≤ k := by omega
              have t12 : wr.cell? ⟨g, o + n * 13 + 12, none⟩ = some (.int .i64 x.tk) := hk2.cell TW.out
              have H2 := Lib.hid hO2
              have K2' := Lib.hid hk2
              clear hO2 hk2
              by_cases hgo : (k : Int) < x.tk
              case neg =>
                go_wp2_with fail
                go_roundw
                case rel => exact ⟨n + 1, C2, R2, K2, by go_num, by omega, H2.out, hl2, by omega, K2'.out, hz2'⟩
                case measure => simp [intOf] <;> omega
              by_cases hg4 : k < 400
              case neg =>
                have hg4I : ¬ (k : Int) < 400 := by omega
                go_wp2_with fail
                go_roundw
                case rel => exact ⟨n + 1, C2, R2, K2, by go_num, by omega, H2.out, hl2, by omega, K2'.out, hz2'⟩
                case measure => simp [intOf] <;> omega
              have hg4I : (k : Int) < 400 := by omega
              obtain ⟨CV, CW, CO⟩ := C2
              cases CO with
              | nil =>
                have HT1 := Lib.hid (H2.out.take.mono (R' := fun r w' => r = .returned (.tuple #[.agg zeroOp, .bool false]) ∧ Own3 w0.heap.size w' gq gp hold ⟨CV, CW, []⟩ ⟨CV, CW, []⟩ _ R2 K2 ∧ Kept (fun b => w0.heap.size ≤ b) wr w') (fun r w' h => by
                  rcases h with ⟨_, h1, h2, h3, h4⟩ | ⟨e, O', h1, _⟩
                  · exact ⟨h1, h2, h3.mono (fun b _ e => e ▸ h4)⟩
                  · cases h1))
                go_upto_region 33 with (first
                  | (go_at_call 9; refine HT1.out.mono ?_; rintro r w3' ⟨rfl, ha3, hka⟩; have A3 := Lib.hid (Blk.new w3' 34 zeroOp))
                  | (refine wpList_store_row rfl 34 _ _ rfl w3'.heap.size zeroOp rfl rfl 34 zeroOp A3.out size_op rfl (by simp [zeroOp, Value.oneCell']) ?_))
                have kA : Kept (fun _ => False) w3' ((w3'.alloc (.cells zeroOp 34)).setRow w3'.heap.size zeroOp) := ((Kept.refl _ _).alloc _).setRow (fun h => by omega) _
                have A4 := Lib.hid (A3.out.row zeroOp)
                have HA := Lib.hid (ha3.keep kA)
                have KA := Lib.hid (K2'.out.trans (hka.trans kA (fun _ _ h => h.elim)) (fun b hb h => by omega))
                have ZA : Hid (w0.heap.size ≤ ((w3'.alloc (.cells zeroOp 34)).setRow w3'.heap.size zeroOp).heap.size) := Lib.hid (Nat.le_trans hz2' (Nat.le_trans hka.size kA.size))
                generalize w3'.heap.size = ba at *
                generalize (w3'.alloc (.cells zeroOp 34)).setRow ba zeroOp = wA at *
                clear A3 ha3 hka kA HT1 t12 hgo hg4 hg4I K2' H2
                have HT2 := Lib.hid (HA.out.swap.take.mono (R' := fun r w' => r = .returned (.tuple #[.agg zeroOp, .bool false]) ∧ Own3 w0.heap.size w' gp gq hold ⟨CV, CW, []⟩ ⟨CV, CW, []⟩ _ R2 K2 ∧ Kept (fun b => w0.heap.size ≤ b) wA w' ∧ Blk w' ba 34 zeroOp) (fun r w' h => by
                  rcases h with ⟨_, h1, h2, h3, h4⟩ | ⟨e, O', h1, _⟩
                  · refine ⟨h1, h2, h3.mono (fun b _ e => e ▸ h4), h3.blk (fun e => ?_) A4.out⟩
                    obtain ⟨cs, hc⟩ := HA.out.swap.head
                    have e2 : ba = gp := e
                    subst e2
                    exact hc.ne_ A4.out (of_decide_eq_true (by kernel_rfl)) rfl
                  · cases h1))
                go_upto_region 34 with (first
                  | (go_at_call 9; refine HT2.out.mono ?_; rintro r w5' ⟨rfl, hb5, hkb, hB5⟩; have B5' := Lib.hid (Blk.new w5' 34 zeroOp))
                  | (refine wpList_store_row rfl 34 _ _ rfl w5'.heap.size zeroOp rfl rfl 34 zeroOp B5'.out size_op rfl (by simp [zeroOp, Value.oneCell']) ?_))
                have kB : Kept (fun _ => False) w5' ((w5'.alloc (.cells zeroOp 34)).setRow w5'.heap.size zeroOp) := ((Kept.refl _ _).alloc _).setRow (fun h => by omega) _
                have B6 := Lib.hid (B5'.out.row zeroOp)
                have A6 := Lib.hid (kB.blk (fun h => h) hB5)
                have HB := Lib.hid (hb5.swap.keep kB)
                have KB := Lib.hid (KA.out.trans (hkb.trans kB (fun _ _ h => h.elim)) (fun b hb h => by omega))
                have ZB : Hid (w0.heap.size ≤ ((w5'.alloc (.cells zeroOp 34)).setRow w5'.heap.size zeroOp).heap.size) := Lib.hid (Nat.le_trans ZA.out (Nat.le_trans hkb.size kB.size))
                generalize w5'.heap.size = bb at *
                generalize (w5'.alloc (.cells zeroOp 34)).setRow bb zeroOp = wB at *
                clear B5' hb5 hkb hB5 kB HT2 A4 HA KA ZA
                have HSM := Lib.hid (same_zero wB)
                have x0 : wB.cell? ⟨ba, 0, none⟩ = some (.int .i64 0) := A6.out.cell' (i := 0) rfl
                have x1 : wB.cell? ⟨ba, 1, none⟩ = some (.int .i64 0) := A6.out.cell' (i := 1) rfl
                have x2 : wB.cell? ⟨ba, 2, none⟩ = some (.slice none 0 0) := A6.out.cell' (i := 2) rfl
                have x3 : wB.cell? ⟨ba, 3, none⟩ = some (.int .i64 0) := A6.out.cell' (i := 3) rfl
                have x4 : wB.cell? ⟨ba, 4, none⟩ = some (.int .i64 0) := A6.out.cell' (i := 4) rfl
                have x5 : wB.cell? ⟨ba, 5, none⟩ = some (.int .i64 0) := A6.out.cell' (i := 5) rfl
                have x6 : wB.cell? ⟨ba, 6, none⟩ = some (.int .i64 0) := A6.out.cell' (i := 6) rfl
                have x7 : wB.cell? ⟨ba, 7, none⟩ = some (.int .i64 0) := A6.out.cell' (i := 7) rfl
                have x8 : wB.cell? ⟨ba, 8, none⟩ = some (.string ByteArray.empty) := A6.out.cell' (i := 8) rfl
                have x9 : wB.cell? ⟨ba, 9, none⟩ = some (.slice none 0 0) := A6.out.cell' (i := 9) rfl
                have x10 : wB.cell? ⟨ba, 10, none⟩ = some (.int .i64 0) := A6.out.cell' (i := 10) rfl
                have y0 : wB.cell? ⟨bb, 0, none⟩ = some (.int .i64 0) := B6.out.cell' (i := 0) rfl
                have y1 : wB.cell? ⟨bb, 1, none⟩ = some (.int .i64 0) := B6.out.cell' (i := 1) rfl
                have y2 : wB.cell? ⟨bb, 2, none⟩ = some (.slice none 0 0) := B6.out.cell' (i := 2) rfl
                have y3 : wB.cell? ⟨bb, 3, none⟩ = some (.int .i64 0) := B6.out.cell' (i := 3) rfl
                have y4 : wB.cell? ⟨bb, 4, none⟩ = some (.int .i64 0) := B6.out.cell' (i := 4) rfl
                have y5 : wB.cell? ⟨bb, 5, none⟩ = some (.int .i64 0) := B6.out.cell' (i := 5) rfl
                have y6 : wB.cell? ⟨bb, 6, none⟩ = some (.int .i64 0) := B6.out.cell' (i := 6) rfl
                have y7 : wB.cell? ⟨bb, 7, none⟩ = some (.int .i64 0) := B6.out.cell' (i := 7) rfl
                have y8 : wB.cell? ⟨bb, 8, none⟩ = some (.string ByteArray.empty) := B6.out.cell' (i := 8) rfl
                have y9 : wB.cell? ⟨bb, 9, none⟩ = some (.slice none 0 0) := B6.out.cell' (i := 9) rfl
                have y10 : wB.cell? ⟨bb, 10, none⟩ = some (.int .i64 0) := B6.out.cell' (i := 10) rfl
                go_wp2_with (go_at_call 16; refine HSM.out.mono ?_; rintro r w7 ⟨rfl, hk7⟩)
                go_roundw
                case rel => exact ⟨n + 1, ⟨CV, CW, []⟩, R2, K2, by go_num, by omega, HB.out.keep hk7, hl2, by omega, KB.out.trans hk7 (fun _ _ h => h), Nat.le_trans ZB.out hk7.size⟩
                case measure => simp [intOf] <;> omega
              | cons c CO =>
                have SUB := Lib.hid H2.out.subl
                have HG4 := Lib.hid hg4
                have HT1 := Lib.hid (H2.out.take.mono (R' := fun r w' => ∃ e : Ent, c = cont e ∧ r = .returned (.tuple #[.agg (opA e.v), .bool true]) ∧ Own3 w0.heap.size w' gq gp hold ⟨CV, CW, CO⟩ ⟨CV, CW, c :: CO⟩ _ R2 (K2 ++ [e]) ∧ Kept (fun b => w0.heap.size ≤ b) wr w') (fun r w' h => by
                  rcases h with ⟨h0, _⟩ | ⟨e, O', h1, h2, h3, h4, h5⟩
                  · cases h0
                  · injection h1 with h1 h6
                    subst h6
                    exact ⟨e, h1, h2, h3, h4.mono (fun b _ e => e ▸ h5)⟩))
                go_upto_region 33 with (first
                  | (go_at_call 9; refine HT1.out.mono ?_; rintro r w3' ⟨e, hce, rfl, ha3, hka⟩; have CE := Lib.hid hce; clear hce; have A3 := Lib.hid (Blk.new w3' 34 zeroOp))
                  | (refine wpList_store_row rfl 34 _ _ rfl w3'.heap.size (opA e.v) rfl rfl 34 zeroOp A3.out (by rw [opA_size]; exact size_op) (by rw [opA_size]; rfl) (opA_one _) ?_))
                have kA : Kept (fun _ => False) w3' ((w3'.alloc (.cells zeroOp 34)).setRow w3'.heap.size (opA e.v)) := ((Kept.refl _ _).alloc _).setRow (fun h => by omega) _
                have A4 := Lib.hid (A3.out.row (opA e.v))
                have HA := Lib.hid (ha3.keep kA)
                have KA := Lib.hid (K2'.out.trans (hka.trans kA (fun _ _ h => h.elim)) (fun b hb h => by omega))
                have ZA : Hid (w0.heap.size ≤ ((w3'.alloc (.cells zeroOp 34)).setRow w3'.heap.size (opA e.v)).heap.size) := Lib.hid (Nat.le_trans hz2' (Nat.le_trans hka.size kA.size))
                generalize w3'.heap.size = ba at *
                generalize (w3'.alloc (.cells zeroOp 34)).setRow ba (opA e.v) = wA at *
                clear A3 ha3 hka kA HT1 t12 hgo hg4 hg4I K2' H2
                have HT2 := Lib.hid (HA.out.swap.take.mono (R' := fun r w' => ∃ f : Ent, c = cont f ∧ r = .returned (.tuple #[.agg (opA f.v), .bool true]) ∧ Own3 w0.heap.size w' gp gq hold ⟨CV, CW, CO⟩ ⟨CV, CW, CO⟩ _ R2 (K2 ++ [e] ++ [f]) ∧ Kept (fun b => w0.heap.size ≤ b) wA w' ∧ Blk w' ba 34 (opA e.v)) (fun r w' h => by
                  rcases h with ⟨h0, _⟩ | ⟨f, O', h1, h2, h3, h4, h5⟩
                  · cases h0
                  · injection h1 with h1 h6
                    subst h6
                    refine ⟨f, h1, h2, h3, h4.mono (fun b _ e => e ▸ h5), h4.blk (fun e1 => ?_) A4.out⟩
                    obtain ⟨cs, hc⟩ := HA.out.swap.head
                    have e2 : ba = gp := e1
                    subst e2
                    exact hc.ne_ A4.out (of_decide_eq_true (by kernel_rfl)) rfl))
                go_upto_region 34 with (first
                  | (go_at_call 9; refine HT2.out.mono ?_; rintro r w5' ⟨f, hcf, rfl, hb5, hkb, hB5⟩; have CF := Lib.hid hcf; clear hcf; have B5' := Lib.hid (Blk.new w5' 34 zeroOp))
                  | (refine wpList_store_row rfl 34 _ _ rfl w5'.heap.size (opA f.v) rfl rfl 34 zeroOp B5'.out (by rw [opA_size]; exact size_op) (by rw [opA_size]; rfl) (opA_one _) ?_))
                have kB : Kept (fun _ => False) w5' ((w5'.alloc (.cells zeroOp 34)).setRow w5'.heap.size (opA f.v)) := ((Kept.refl _ _).alloc _).setRow (fun h => by omega) _
                have B6 := Lib.hid (B5'.out.row (opA f.v))
                have A6 := Lib.hid (kB.blk (fun h => h) hB5)
                have HB := Lib.hid (hb5.swap.keep kB)
                have KB := Lib.hid (KA.out.trans (hkb.trans kB (fun _ _ h => h.elim)) (fun b hb h => by omega))
                have ZB : Hid (w0.heap.size ≤ ((w5'.alloc (.cells zeroOp 34)).setRow w5'.heap.size (opA f.v)).heap.size) := Lib.hid (Nat.le_trans ZA.out (Nat.le_trans hkb.size kB.size))
                generalize w5'.heap.size = bb at *
                generalize (w5'.alloc (.cells zeroOp 34)).setRow bb (opA f.v) = wB at *
                clear B5' hb5 hkb hB5 kB HT2 A4 HA KA ZA
                have HSM := Lib.hid (same_taken (HB.out.own (show e ∈ K2 ++ [e] ++ [f] by simp)) (HB.out.own (show f ∈ K2 ++ [e] ++ [f] by simp)) (CE.out.symm.trans CF.out))
                have x0 : wB.cell? ⟨ba, 0, none⟩ = some (.int .i64 e.v.dot.site) := A6.out.cell' (i := 0) rfl
                have x1 : wB.cell? ⟨ba, 1, none⟩ = some (.int .i64 e.v.dot.seq) := A6.out.cell' (i := 1) rfl
                have x2 : wB.cell? ⟨ba, 2, none⟩ = some (.slice e.v.deps.a e.v.deps.n e.v.deps.c) := A6.out.cell' (i := 2) rfl
                have x3 : wB.cell? ⟨ba, 3, none⟩ = some (.int .i64 e.v.kind) := A6.out.cell' (i := 3) rfl
                have x4 : wB.cell? ⟨ba, 4, none⟩ = some (.int .i64 e.v.id.t) := A6.out.cell' (i := 4) rfl
                have x5 : wB.cell? ⟨ba, 5, none⟩ = some (.int .i64 e.v.id.s) := A6.out.cell' (i := 5) rfl
                have x6 : wB.cell? ⟨ba, 6, none⟩ = some (.int .i64 e.v.ref.t) := A6.out.cell' (i := 6) rfl
                have x7 : wB.cell? ⟨ba, 7, none⟩ = some (.int .i64 e.v.ref.s) := A6.out.cell' (i := 7) rfl
                have x8 : wB.cell? ⟨ba, 8, none⟩ = some (.string e.v.text) := A6.out.cell' (i := 8) rfl
                have x9 : wB.cell? ⟨ba, 9, none⟩ = some (.slice e.v.gone.a e.v.gone.n e.v.gone.c) := A6.out.cell' (i := 9) rfl
                have x10 : wB.cell? ⟨ba, 10, none⟩ = some (.int .i64 e.v.site) := A6.out.cell' (i := 10) rfl
                have y0 : wB.cell? ⟨bb, 0, none⟩ = some (.int .i64 f.v.dot.site) := B6.out.cell' (i := 0) rfl
                have y1 : wB.cell? ⟨bb, 1, none⟩ = some (.int .i64 f.v.dot.seq) := B6.out.cell' (i := 1) rfl
                have y2 : wB.cell? ⟨bb, 2, none⟩ = some (.slice f.v.deps.a f.v.deps.n f.v.deps.c) := B6.out.cell' (i := 2) rfl
                have y3 : wB.cell? ⟨bb, 3, none⟩ = some (.int .i64 f.v.kind) := B6.out.cell' (i := 3) rfl
                have y4 : wB.cell? ⟨bb, 4, none⟩ = some (.int .i64 f.v.id.t) := B6.out.cell' (i := 4) rfl
                have y5 : wB.cell? ⟨bb, 5, none⟩ = some (.int .i64 f.v.id.s) := B6.out.cell' (i := 5) rfl
                have y6 : wB.cell? ⟨bb, 6, none⟩ = some (.int .i64 f.v.ref.t) := B6.out.cell' (i := 6) rfl
                have y7 : wB.cell? ⟨bb, 7, none⟩ = some (.int .i64 f.v.ref.s) := B6.out.cell' (i := 7) rfl
                have y8 : wB.cell? ⟨bb, 8, none⟩ = some (.string f.v.text) := B6.out.cell' (i := 8) rfl
                have y9 : wB.cell? ⟨bb, 9, none⟩ = some (.slice f.v.gone.a f.v.gone.n f.v.gone.c) := B6.out.cell' (i := 9) rfl
                have y10 : wB.cell? ⟨bb, 10, none⟩ = some (.int .i64 f.v.site) := B6.out.cell' (i := 10) rfl
                go_upto_region 37 with (go_at_call 16; refine HSM.out.mono ?_; rintro r w7 ⟨rfl, hk7⟩)
                clear x0 y0 x1 y1 x2 y2 x3 y3 x4 y4 x5 y5 x6 y6 x7 y7 x8 y8 x9 y9 x10 y10
                have C7 := Lib.hid (hk7.blk (fun h => h) A6.out)
                have HC := Lib.hid (HB.out.keep hk7)
                have KC := Lib.hid (KB.out.trans hk7 (fun _ _ h => h))
                have ZC : Hid (w0.heap.size ≤ w7.heap.size) := Lib.hid (Nat.le_trans ZB.out hk7.size)
                clear HSM A6 B6 HB KB ZB hk7
                have x0 : w7.cell? ⟨ba, 0, none⟩ = some (.int .i64 e.v.dot.site) := C7.out.cell' (i := 0) rfl
                have x1 : w7.cell? ⟨ba, 1, none⟩ = some (.int .i64 e.v.dot.seq) := C7.out.cell' (i := 1) rfl
                have x2 : w7.cell? ⟨ba, 2, none⟩ = some (.slice e.v.deps.a e.v.deps.n e.v.deps.c) := C7.out.cell' (i := 2) rfl
                have x3 : w7.cell? ⟨ba, 3, none⟩ = some (.int .i64 e.v.kind) := C7.out.cell' (i := 3) rfl
                have x4 : w7.cell? ⟨ba, 4, none⟩ = some (.int .i64 e.v.id.t) := C7.out.cell' (i := 4) rfl
                have x5 : w7.cell? ⟨ba, 5, none⟩ = some (.int .i64 e.v.id.s) := C7.out.cell' (i := 5) rfl
                have x6 : w7.cell? ⟨ba, 6, none⟩ = some (.int .i64 e.v.ref.t) := C7.out.cell' (i := 6) rfl
                have x7 : w7.cell? ⟨ba, 7, none⟩ = some (.int .i64 e.v.ref.s) := C7.out.cell' (i := 7) rfl
                have x8 : w7.cell? ⟨ba, 8, none⟩ = some (.string e.v.text) := C7.out.cell' (i := 8) rfl
                have x9 : w7.cell? ⟨ba, 9, none⟩ = some (.slice e.v.gone.a e.v.gone.n e.v.gone.c) := C7.out.cell' (i := 9) rfl
                have x10 : w7.cell? ⟨ba, 10, none⟩ = some (.int .i64 e.v.site) := C7.out.cell' (i := 10) rfl
                have LD := Lib.hid (lit_op w7 e)
                have k8 : Kept (fun _ => False) w7 (w7.alloc (.cells #[.int .i64 e.v.dot.site, .int .i64 e.v.dot.seq, .slice e.v.deps.a e.v.deps.n e.v.deps.c, .int .i64 e.v.kind, .int .i64 e.v.id.t, .int .i64 e.v.id.s, .int .i64 e.v.ref.t, .int .i64 e.v.ref.s, .string e.v.text, .slice e.v.gone.a e.v.gone.n e.v.gone.c, .int .i64 e.v.site] 34)) := (Kept.refl _ _).alloc _
                have HD := Lib.hid (HC.out.keep k8)
                have KD := Lib.hid (KC.out.trans k8 (fun _ _ h => h))
                have ZD := Lib.hid (Nat.le_trans ZC.out k8.size)
                have RL : Hid (R2.length ≤ 1000000) := Lib.hid (by omega)
                clear C7 HC KC ZC k8
                go_wp2_with (at_builtin; (refine wpList_append_keeps entE rfl (.tmp 166) (.tmp 168) 24 rfl w0.heap.size 34 _ 128 Try.underlying24 info_op rfl (by decide) rfl rfl HD.out.rowOwn LD.out RL.out ZD.out ?_); (intro v8 w8 ho8 hg8))
                go_roundw
                case rel =>
                  obtain ⟨h9, k9⟩ := HD.out.appended ho8 hg8 (by rw [List.append_assoc]; exact SUB.out.append (List.sublist_append_left [e] [f]))
                  have hg4 := HG4.out
                  exact ⟨k + 1, ⟨CV, CW, CO⟩, R2 ++ [e], K2 ++ [e] ++ [f], by go_num, by omega, h9, by simp only [List.length_cons] at hl2 ⊢; omega, by rw [List.length_append, List.length_singleton]; omega, KD.out.trans k9 (fun b hb h => by omega), Nat.le_trans ZD.out k9.size⟩
                case measure =>
                  have hg4 := HG4.out
                  simp [intOf] <;> omega
  case rest =>
    clear F0 KW0 HL HS
    obtain ⟨C, R, K, hO, hRl, hk, hz⟩ := hcut
    obtain ⟨ka, kc, hkv, _, _⟩ := hO.row.sl
    subst hkv
    replace hO := hO.drop
    clear K
    generalize hnR : R.length = nR at *
    have HO := Lib.hid hO
    have KW := Lib.hid hk
    have HNR := Lib.hid hnR
    clear hO hk hnR
    go_wp2_with fail
    go_loopw [22] (fun iv wr => ∃ (n : Nat) (R : List Ent), iv = .int .i64 n ∧ n ≤ nR ∧ R.length = nR ∧ Own3 w0.heap.size wr gq gp hold C C (.slice ka nR kc) R R ∧ Marked R n ∧ Kept (fun _ => False) w wr) (fun iv _ => nR - (intOf iv).toNat)
    case atStart => exact ⟨0, R, rfl, Nat.zero_le _, HNR.out, HO.out, Marked.zero _, KW.out⟩
    case round =>
      clear HO KW HNR R
      obtain ⟨n, R, rfl, hn, hRn, hO, hM, hk⟩ := hrel
      have HO := Lib.hid hO
      have KW := Lib.hid hk
      have HRN := Lib.hid hRn
      have MR := Lib.hid hM
      clear hO hk hRn hM
      have hn0 : (0 : Int) ≤ n := by omega
      by_cases hlt : n < nR
      case neg =>
        have hltI : ¬ (n : Int) < nR := by omega
        obtain rfl : nR = n := by omega
        clear hlt hn
        generalize wr = w8 at *
        go_wp2_with fail
        go_loopw [25] (fun iv wr => ∃ n : Nat, iv = .int .i64 n ∧ n ≤ nR ∧ Own3 w0.heap.size wr gq gp hold C C (.slice ka nR kc) R R ∧ Kept (fun _ => False) w wr) (fun iv _ => nR - (intOf iv).toNat)
        case atStart => exact ⟨0, rfl, Nat.zero_le _, HO.out, KW.out⟩
        case round =>
          clear HO KW
          obtain ⟨n, rfl, hn, hO, hk⟩ := hrel
          have HO := Lib.hid hO
          have KW := Lib.hid hk
          clear hO hk
          have hn0 : (0 : Int) ≤ n := by omega
          by_cases hlt : n < nR
          case neg =>
            have hltI : ¬ (n : Int) < nR := by omega
            obtain rfl : nR = n := by omega
            clear hlt hn
            generalize wr = w9 at *
            go_wp2_with fail
            go_loopw [28] (fun iv wr => ∃ n : Nat, iv = .int .i64 n ∧ n ≤ nR ∧ Own3 w0.heap.size wr gq gp hold C C (.slice ka nR kc) R R ∧ Kept (fun _ => False) w wr) (fun iv _ => nR - (intOf iv).toNat)
            case atStart => exact ⟨0, rfl, Nat.zero_le _, HO.out, KW.out⟩
            case round =>
              clear HO KW
              obtain ⟨n, rfl, hn, hO, hk⟩ := hrel
              have HO := Lib.hid hO
              have KW := Lib.hid hk
              clear hO hk
              have hn0 : (0 : Int) ≤ n := by omega
              by_cases hlt : n < nR
              case neg =>
                have hltI : ¬ (n : Int) < nR := by omega
                clear MR
                have HW1 := Lib.hid HO.out.waits
                go_wp2_with (first
                  | (go_at_call 5; refine (known_any _).mono ?_; rintro r w15 ⟨rfl, hk15⟩)
                  | (go_at_call 15; refine HSM.out.mono ?_; rintro r w14 ⟨rfl, q14, rfl⟩)
                  | (go_at_call 11; refine HV2.out.mono ?_; rintro r w13 ⟨vd, rfl, hld, hod, hkd⟩; have K13 := Lib.hid (K12.out.trans hkd (fun _ _ h => h)); have HSM := Lib.hid ((same_any ((owns_slAt (E := dotE) hoc').kept hkd) (owns_slAt (E := dotE) hod) (Nat.le_trans hld (by decide))).mono (R' := fun r w' => r = .returned (.bool true) ∧ ∃ q, w' = w13.drewN q) (fun r w' h => by rw [decide_eq_true rfl] at h; exact h)))
                  | (go_at_call 11; refine HV1.out.mono ?_; rintro r w12 ⟨vc, rfl, hlc', hoc', hkc⟩; have K12 := Lib.hid (K11.out.trans hkc (fun _ _ h => h)); have HV2 := Lib.hid (HO.out.keep K12.out).swap.vector)
                  | (go_at_call 14; refine HDT.out.mono ?_; rintro r w11 ⟨rfl, q11, rfl⟩; have K11 := Lib.hid (K10.out.drewN q11); have HV1 := Lib.hid (HO.out.keep K11.out).vector)
                  | (go_at_call 12; refine HW2.out.mono ?_; rintro r w10 ⟨vb, Lb, rfl, hwb, hlb, hob, hkb⟩; obtain rfl := WaitsIs.one hwa hwb; have K10 := Lib.hid (Ka.out.trans hkb (fun _ _ h => h)); have HDT := Lib.hid ((dots_any ((owns_slAt (E := dotE) hoa).kept hkb) (owns_slAt (E := dotE) hob) (Nat.le_trans hla (by decide))).mono (R' := fun r w' => r = .returned (.bool true) ∧ ∃ q, w' = w10.drewN q) (fun r w' h => by rw [decide_eq_true rfl] at h; exact h)))
                  | (go_at_call 12; refine HW1.out.mono ?_; rintro r wa' ⟨va, La, rfl, hwa, hla, hoa, hka⟩; have Ka := Lib.hid hka; have HW2 := Lib.hid (HO.out.keep hka).swap.waits))
                go_ret
                exact ⟨rfl, (KW.out.trans (K13.out.drewN q14) (fun _ _ h => h)).trans hk15 (fun _ _ h => h)⟩
              case pos =>
                have hltI : (n : Int) < nR := by omega
                obtain ⟨e, he⟩ := get_of_lt (show n < R.length by rw [HRN.out]; exact hlt)
                obtain ⟨gk, hka, hc2, hc9⟩ := HO.out.cells he
                obtain ⟨hod, hog, hDl, hGl, hdn, hgn⟩ := HO.out.deps he
                obtain ⟨hMD, hMG⟩ := MR.out n e he hlt
                subst hka
                obtain ⟨⟨dot, ⟨da, dn, dc⟩, kind, id, ref, text, ⟨ga, gn, gc⟩, site⟩, D, G⟩ := e
                simp only at hdn hgn hDl hGl hod hog hc2 hc9 hMD hMG
                subst hdn hgn
                generalize hnD : D.length = nD at *
                generalize hnG : G.length = nG at *
                obtain ⟨z2, hz2⟩ : ∃ z : Int, IntKind.i64.wrap (2000 + (n : Int)) = z := ⟨_, rfl⟩
                rw [hz2] at hMD hMG
                have HE := Lib.hid he
                have ND := Lib.hid hnD
                have NG := Lib.hid hnG
                have OD := Lib.hid hod
                have OG := Lib.hid hog
                have MD := Lib.hid hMD
                have MG := Lib.hid hMG
                clear he hnD hnG hod hog hMD hMG
                generalize wr = wr0 at *
                go_wp2_with fail
                go_loopw [29] (fun iv wr => ∃ k : Nat, iv = .int .i64 k ∧ k ≤ nD ∧ wr = wr0) (fun iv _ => nD - (intOf iv).toNat)
                case atStart => exact ⟨0, rfl, Nat.zero_le _, rfl⟩
                case round =>
                  obtain ⟨k, rfl, hk, rfl⟩ := hrel
                  have hk0 : (0 : Int) ≤ k := by omega
                  by_cases hkl : k < nD
                  case neg =>
                    have hkI : ¬ (k : Int) < nD := by omega
                    clear hk hkl
                    generalize wr = wr1 at *
                    go_wp2_with fail
                    go_loopw [30] (fun iv wr => ∃ k : Nat, iv = .int .i64 k ∧ k ≤ nG ∧ wr = wr1) (fun iv _ => nG - (intOf iv).toNat)
                    case atStart => exact ⟨0, rfl, Nat.zero_le _, rfl⟩
                    case round =>
                      obtain ⟨k, rfl, hk, rfl⟩ := hrel
                      have hk0 : (0 : Int) ≤ k := by omega
                      by_cases hkl : k < nG
                      case neg =>
                        have hkI : ¬ (k : Int) < nG := by omega
                        go_wp2_with fail
                        go_roundw
                        case rel => exact ⟨n + 1, by go_num, by omega, HO.out, KW.out⟩
                        case measure => simp [intOf] <;> omega
                      case pos =>
                        have hkI : (k : Int) < nG := by omega
                        obtain ⟨hl', ⟨_, hno⟩ | ⟨g5, cap5, hv2, _, hO5⟩⟩ := own_of (E := runE) OG.out
                        · have h1 := NG.out
                          rw [hno] at h1; simp at h1; omega
                        injection hv2 with e1 _ e2
                        subst e1 e2
                        obtain ⟨y, hy⟩ := get_of_lt (show k < G.length by rw [NG.out]; exact hkl)
                        obtain rfl := MG.out k y hy
                        have c0 : wr.cell? ⟨g5, k * 3 + 0, none⟩ = some (.int .i64 0) := hO5.cell hy (j := 0) rfl
                        have c1 : wr.cell? ⟨g5, k * 3 + 1, none⟩ = some (.int .i64 0) := hO5.cell hy (j := 1) rfl
                        have c3 : wr.cell? ⟨g5, k * 3 + 2, none⟩ = some (.int .i64 z2) := hO5.cell hy (j := 2) rfl
                        rw [Nat.add_zero] at c0
                        clear hO5 hy hl'
                        go_wp2_with fail
                        go_roundw
                        case rel => exact ⟨k + 1, by go_num, by omega, trivial⟩
                        case measure => simp [intOf] <;> omega
                  case pos =>
                    have hkI : (k : Int) < nD := by omega
                    obtain ⟨hl', ⟨_, hno⟩ | ⟨g5, cap5, hv2, _, hO5⟩⟩ := own_of (E := dotE) OD.out
                    · have h1 := ND.out
                      rw [hno] at h1; simp at h1; omega
                    injection hv2 with e1 _ e2
                    subst e1 e2
                    obtain ⟨y, hy⟩ := get_of_lt (show k < D.length by rw [ND.out]; exact hkl)
                    obtain rfl := MD.out k y hy
                    have c0 : wr.cell? ⟨g5, k * 2 + 0, none⟩ = some (.int .i64 z2) := hO5.cell hy (j := 0) rfl
                    have c1 : wr.cell? ⟨g5, k * 2 + 1, none⟩ = some (.int .i64 0) := hO5.cell hy (j := 1) rfl
                    rw [Nat.add_zero] at c0
                    clear hO5 hy hl'
                    go_wp2_with fail
                    go_roundw
                    case rel => exact ⟨k + 1, by go_num, by omega, trivial⟩
                    case measure => simp [intOf] <;> omega
          case pos =>
            have hltI : (n : Int) < nR := by omega
            obtain ⟨e, he⟩ := get_of_lt (show n < R.length by rw [HRN.out]; exact hlt)
            obtain ⟨gk, hka, hc2, hc9⟩ := HO.out.cells he
            obtain ⟨hod, hog, hDl, hGl, hdn, hgn⟩ := HO.out.deps he
            subst hka
            obtain ⟨⟨dot, ⟨da, dn, dc⟩, kind, id, ref, text, ⟨ga, gn, gc⟩, site⟩, D, G⟩ := e
            simp only at hdn hgn hDl hGl hod hog hc2 hc9
            subst hdn hgn
            generalize hnD : D.length = nD at *
            generalize hnG : G.length = nG at *
            obtain ⟨z3, hz3⟩ : ∃ z : Int, IntKind.i64.wrap (3000 + (n : Int)) = z := ⟨_, rfl⟩
            obtain ⟨mD, hmD⟩ : ∃ m, nD + 1 = m := ⟨_, rfl⟩
            obtain ⟨mG, hmG⟩ : ∃ m, nG + 1 = m := ⟨_, rfl⟩
            have k1 : Kept (fun _ => False) wr (wr.alloc (.cells #[.int .i64 z3, .int .i64 0, .int .i64 z3, .int .i64 0] 27)) := (Kept.refl _ _).alloc _
            have LD1 := Lib.hid (SlAt.lit (E := dotE) (w := wr) (t := 27) ([⟨z3, 0⟩, ⟨z3, 0⟩] : List Dot) #[.int .i64 z3, .int .i64 0, .int .i64 z3, .int .i64 0] rfl (by show 2 ≤ maxLen; decide))
            have OD1 := Lib.hid (owns_keep hod k1 (fun _ _ h => h))
            have HE := Lib.hid he
            have ND := Lib.hid hnD
            have NG := Lib.hid hnG
            have DL : Hid (nD ≤ 1000000) := Lib.hid (by omega)
            have GL : Hid (nG ≤ 1000000) := Lib.hid (by omega)
            have HO1 := Lib.hid (HO.out.keep k1)
            clear hod hog he hnD hnG hDl hGl hc9
            generalize wr = wr0 at *
            go_upto_region 53 with (at_builtin; refine wpList_append_two (E := dotE) (v := .slice da nD dc) rfl (.tmp 226) (.tmp 233) 29 rfl 27 _ 16 Try.underlying29 info_dot rfl (by decide) rfl rfl OD1.out LD1.out (Nat.zero_lt_succ _) (Nat.le_refl _) DL.out (m := mD + 1) (by rw [← hmD]; rfl) ?_; intro g1 c1 w1 ho1 hw1)
            replace hw1 := hw1.fix (HO1.out.deps HE.out).1
            have HO2 := Lib.hid (HO1.out.wentD HE.out (by exact ho1) hw1)
            have HO1' := Lib.hid ho1
            have HW1 := Lib.hid hw1
            obtain ⟨_, hgk, _, hc9⟩ := HO2.out.cells HE.out
            injection hgk with hgk
            injection hgk with hgk _ _
            subst hgk
            have k2 : Kept (fun _ => False) w1 (w1.alloc (.cells #[.int .i64 0, .int .i64 0, .int .i64 z3, .int .i64 0, .int .i64 0, .int .i64 z3] 55)) := (Kept.refl _ _).alloc _
            have LG1 := Lib.hid (SlAt.lit (E := runE) (w := w1) (t := 55) ([⟨⟨0, 0⟩, z3⟩, ⟨⟨0, 0⟩, z3⟩] : List Run) #[.int .i64 0, .int .i64 0, .int .i64 z3, .int .i64 0, .int .i64 0, .int .i64 z3] rfl (by show 2 ≤ maxLen; decide))
            have hog2 := owns_keep (HO2.out.deps HE.out).2.1 k2 (fun _ _ h => h)
            simp only [NG.out] at hog2
            have OG1 := Lib.hid hog2
            have K2 := Lib.hid k2
            have K1 := Lib.hid k1
            clear ho1 hw1 k1 k2 OD1 LD1 hc2 hog2
            go_upto_region 54 with (at_builtin; refine wpList_append_two (E := runE) (v := .slice ga nG gc) rfl (.tmp 239) (.tmp 246) 32 rfl 55 _ 24 Try.underlying32 info_run rfl (by decide) rfl rfl OG1.out LG1.out (Nat.zero_lt_succ _) (Nat.le_refl _) GL.out (m := mG + 1) (by rw [← hmG]; rfl) ?_; intro g2 c2 w2 ho2 hw2)
            replace hw2 := hw2.fix (HO1.out.deps HE.out).2.1
            have hfin := HO1.out.wentOn HE.out HO1'.out HW1.out K2.out ho2 hw2 (x := ⟨z3, 0⟩) (x' := ⟨z3, n⟩) (y := ⟨⟨0, 0⟩, z3⟩) (y' := ⟨⟨n, 0⟩, z3⟩) (j := mD) (k := mG) (u := .int .i64 n) (z := .int .i64 n) (by rw [List.getElem?_append_right (by simp only [ND.out]; omega)]; simp only [ND.out, ← hmD, Nat.add_sub_cancel_left]; rfl) (by simp only [ND.out]; omega) rfl (by rw [List.getElem?_append_right (by simp only [NG.out]; omega)]; simp only [NG.out, ← hmG, Nat.add_sub_cancel_left]; rfl) (by simp only [NG.out]; omega) rfl
            obtain ⟨hf1, hf2, ⟨va, cA⟩, fA, ⟨vb, cB⟩, fB⟩ := hfin
            have F1 := Lib.hid hf1
            have F2 := Lib.hid hf2
            have wD : IntKind.i64.wrap (mD : Int) = (mD : Int) := wrap_small (by have := DL.out; omega)
            have wG : IntKind.i64.wrap (mG : Int) = (mG : Int) := wrap_small (by have := GL.out; omega)
            have iD : (mD : Int) < (mD : Int) + 1 := by omega
            have iG : (mG : Int) < (mG : Int) + 1 := by omega
            clear hf1 hf2 ho2 hw2 hc9 OG1 LG1
            go_wp2_with fail
            go_roundw
            case rel =>
              exact ⟨n + 1, by go_num, by omega, F1.out, (KW.out.trans K1.out (fun _ _ h => h)).trans F2.out (fun b hb h => by omega)⟩
            case measure => simp [intOf] <;> omega
      case pos =>
        have hltI : (n : Int) < nR := by omega
        obtain ⟨e, he⟩ := get_of_lt (show n < R.length by rw [HRN.out]; exact hlt)
        obtain ⟨gk, hka, _, _⟩ := HO.out.cells he
        obtain ⟨_, _, hDl, hGl, hdn, hgn⟩ := HO.out.deps he
        subst hka
        obtain ⟨⟨dot, ⟨da, dn, dc⟩, kind, id, ref, text, ⟨ga, gn, gc⟩, site⟩, D, G⟩ := e
        simp only at hdn hgn hDl hGl
        subst hdn hgn
        generalize hnD : D.length = nD at *
        generalize hnG : G.length = nG at *
        have HE := Lib.hid he
        have ND := Lib.hid hnD
        have NG := Lib.hid hnG
        clear he hnD hnG
        obtain ⟨z2, hz2⟩ : ∃ z : Int, IntKind.i64.wrap (2000 + (n : Int)) = z := ⟨_, rfl⟩
        generalize wr = wr0 at *
        go_wp2_with fail
        go_loopw [23] (fun iv wr => ∃ (k : Nat) (D' : List Dot), iv = .int .i64 k ∧ k ≤ nD ∧ D'.length = nD ∧ (∀ m d, D'[m]? = some d → m < k → d = ⟨z2, 0⟩) ∧ Own3 w0.heap.size wr gq gp hold C C (.slice (some ⟨gk, 0, none⟩) nR kc) (R.set n ⟨⟨dot, ⟨da, nD, dc⟩, kind, id, ref, text, ⟨ga, nG, gc⟩, site⟩, D', G⟩) (R.set n ⟨⟨dot, ⟨da, nD, dc⟩, kind, id, ref, text, ⟨ga, nG, gc⟩, site⟩, D', G⟩) ∧ Kept (fun _ => False) w wr) (fun iv _ => nD - (intOf iv).toNat)
        case atStart => exact ⟨0, D, rfl, Nat.zero_le _, ND.out, fun _ _ _ h => absurd h (Nat.not_lt_zero _), by rw [set_same HE.out]; exact HO.out, KW.out⟩
        case round =>
          clear HO KW
          obtain ⟨k, D', rfl, hk, hD', hm, hO, hkk⟩ := hrel
          have hk0 : (0 : Int) ≤ k := by omega
          have he' : (R.set n ⟨⟨dot, ⟨da, nD, dc⟩, kind, id, ref, text, ⟨ga, nG, gc⟩, site⟩, D', G⟩)[n]? = some (⟨⟨dot, ⟨da, nD, dc⟩, kind, id, ref, text, ⟨ga, nG, gc⟩, site⟩, D', G⟩ : Ent) := by rw [List.getElem?_set]; simp [HRN.out, hlt]
          obtain ⟨_, hgk, hc2, _⟩ := hO.cells he'
          injection hgk with hgk
          injection hgk with hgk _ _
          subst hgk
          by_cases hkl : k < nD
          case neg =>
            have hkI : ¬ (k : Int) < nD := by omega
            obtain rfl : nD = k := by omega
            have HO := Lib.hid hO
            have KW := Lib.hid hkk
            have MD := Lib.hid hm
            have LD' := Lib.hid hD'
            have HE' := Lib.hid he'
            clear hO hkk hm hD' he' hkl hk
            generalize wr = wr1 at *
            go_wp2_with fail
            go_loopw [24] (fun iv wr => ∃ (k : Nat) (G' : List Run), iv = .int .i64 k ∧ k ≤ nG ∧ G'.length = nG ∧ (∀ (m : Nat) (r : Run), G'[m]? = some r → m < k → r = ⟨⟨0, 0⟩, z2⟩) ∧ Own3 w0.heap.size wr gq gp hold C C (.slice (some ⟨gk, 0, none⟩) nR kc) (R.set n ⟨⟨dot, ⟨da, nD, dc⟩, kind, id, ref, text, ⟨ga, nG, gc⟩, site⟩, D', G'⟩) (R.set n ⟨⟨dot, ⟨da, nD, dc⟩, kind, id, ref, text, ⟨ga, nG, gc⟩, site⟩, D', G'⟩) ∧ Kept (fun _ => False) w wr) (fun iv _ => nG - (intOf iv).toNat)
            case atStart => exact ⟨0, G, rfl, Nat.zero_le _, NG.out, fun _ _ _ h => absurd h (Nat.not_lt_zero _), HO.out, KW.out⟩
            case round =>
              clear HO KW HE'
              obtain ⟨k, G', rfl, hk, hG', hm, hO, hkk⟩ := hrel
              have hk0 : (0 : Int) ≤ k := by omega
              have he' : (R.set n ⟨⟨dot, ⟨da, nD, dc⟩, kind, id, ref, text, ⟨ga, nG, gc⟩, site⟩, D', G'⟩)[n]? = some (⟨⟨dot, ⟨da, nD, dc⟩, kind, id, ref, text, ⟨ga, nG, gc⟩, site⟩, D', G'⟩ : Ent) := by rw [List.getElem?_set]; simp [HRN.out, hlt]
              obtain ⟨_, hgk, _, hc9⟩ := hO.cells he'
              injection hgk with hgk
              injection hgk with hgk _ _
              subst hgk
              by_cases hkl : k < nG
              case neg =>
                have hkI : ¬ (k : Int) < nG := by omega
                obtain rfl : nG = k := by omega
                have HO := Lib.hid hO
                have KW := Lib.hid hkk
                have MG := Lib.hid hm
                have LG' := Lib.hid hG'
                clear hO hkk hm hG' he' hkl hk
                go_wp2_with fail
                go_roundw
                case rel =>
                  exact ⟨n + 1, _, by go_num, by omega, by rw [List.length_set]; exact HRN.out, HO.out, MR.out.next (by rw [HRN.out]; exact hlt) (fun m d hd => by rw [hz2]; exact MD.out m d hd (by rw [← LD'.out]; exact (List.getElem?_eq_some_iff.1 hd).1)) (fun m r hr => by rw [hz2]; exact MG.out m r hr (by rw [← LG'.out]; exact (List.getElem?_eq_some_iff.1 hr).1)), KW.out⟩
                case measure => simp [intOf] <;> omega
              case pos =>
                have hkI : (k : Int) < nG := by omega
                obtain ⟨hDl', ⟨_, hno⟩ | ⟨g5, cap5, hv2, _, hO5⟩⟩ := own_of (E := runE) (hO.deps he').2.1
                · simp only at hno
                  rw [hno] at hG'; simp at hG'; omega
                injection hv2 with e1 _ e2
                subst e1 e2
                have HO := Lib.hid hO
                have KW := Lib.hid hkk
                have MG := Lib.hid hm
                have LG' := Lib.hid hG'
                have HE' := Lib.hid he'
                have HO5 := Lib.hid hO5
                have HKL := Lib.hid (show k < G'.length by omega)
                have SZD : Hid ((Try.prog.info? 55).map (·.size) = some runE.k) := Lib.hid (by kernel_rfl)
                clear hO hkk hm hG' he' hO5 hDl'
                go_wp2_with (refine wpList_store_elem (E := runE) rfl 55 (.tmp 215) (.tmp 214) rfl ⟨⟨0, 0⟩, z2⟩ (i := k) rfl rfl HO5.out HKL.out SZD.out ?_; intro w7 hO7 hk7)
                go_roundw
                case rel =>
                  obtain ⟨h9, k9⟩ := HO.out.putG HE'.out (G := G'.set k ⟨⟨0, 0⟩, z2⟩) (by simp only [LG'.out]; rfl) (by simp) hO7 hk7
                  rw [List.set_set] at h9
                  exact ⟨k + 1, G'.set k ⟨⟨0, 0⟩, z2⟩, by go_num, by omega, by rw [List.length_set]; exact LG'.out, marks_next MG.out, h9, KW.out.trans k9 (fun b hb h => by omega)⟩
                case measure => simp [intOf] <;> omega
          case pos =>
            have hkI : (k : Int) < nD := by omega
            obtain ⟨hDl', ⟨_, hno⟩ | ⟨g5, cap5, hv2, _, hO5⟩⟩ := own_of (E := dotE) (hO.deps he').1
            · simp only at hno
              rw [hno] at hD'; simp at hD'; omega
            injection hv2 with e1 _ e2
            subst e1 e2
            have HO := Lib.hid hO
            have KW := Lib.hid hkk
            have MD := Lib.hid hm
            have LD' := Lib.hid hD'
            have HE' := Lib.hid he'
            have HO5 := Lib.hid hO5
            have HKL := Lib.hid (show k < D'.length by omega)
            have SZD : Hid ((Try.prog.info? 27).map (·.size) = some dotE.k) := Lib.hid (by kernel_rfl)
            clear hO hkk hm hD' he' hO5 hDl'
            go_wp2_with (refine wpList_store_elem (E := dotE) rfl 27 (.tmp 195) (.tmp 194) rfl ⟨z2, 0⟩ (i := k) rfl rfl HO5.out HKL.out SZD.out ?_; intro w7 hO7 hk7)
            go_roundw
            case rel =>
              obtain ⟨h9, k9⟩ := HO.out.putD HE'.out (D := D'.set k ⟨z2, 0⟩) (by simp only [LD'.out]; rfl) (by simp) hO7 hk7
              rw [List.set_set] at h9
              exact ⟨k + 1, D'.set k ⟨z2, 0⟩, by go_num, by omega, by rw [List.length_set]; exact LD'.out, marks_next MD.out, h9, KW.out.trans k9 (fun b hb h => by omega)⟩
            case measure => simp [intOf] <;> omega
end causalOwn
end Go.Proofs.Ytaaeomapbigfgaa
