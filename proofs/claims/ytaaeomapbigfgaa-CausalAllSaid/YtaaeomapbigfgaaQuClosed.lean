/- hearsaylaw13.closed. -/
import Derived.Test.YtaaeomapbigfgaaQuClosed0
import Derived.Deep.DeepCutAuto
namespace Go.Proofs.Ytaaeomapbigfgaa
open Go.RowKit Go.Proofs.Ytaaeomapbigfgaa.St
theorem slAt_nil {α : Type} {E : Enc α} (w : World) : SlAt E w (.slice none 0 0) ([] : List α) := owns_slAt (base := 0) (t := 0) (n := 0) (World.ownsRow_nil _ _ _ _)
def ClosedPost (w : World) (n : Nat) (r : Ending) (w' : World) : Prop := ∃ lv W hb X V, r = .returned lv ∧ ClAt w.heap.size hb W X V lv w' ∧ W.length ≤ n ∧ Kept (fun _ => False) w w'
theorem CEnt.why {b0 : Nat} {w : World} {e : Ent} (h : CEnt b0 w e) : whyAdd e.D e.v.dot = 0 := by
  have h1 := h.ok
  have h2 := h.get
  unfold Dot.Ok at h1
  unfold whyAdd
  rw [if_neg (fun h => by rcases h with h | h; exact h ⟨h1.1, h1.2.1⟩; omega), if_neg (by omega), if_neg]
  intro hn
  apply hn
  omega
set_option maxRecDepth 100000 in
set_option maxHeartbeats 8000000 in
theorem closed_any {w : World} {sv nv : Value} {S N : List Int} (hS : SlAt intE w sv S) (hN : SlAt intE w nv N) (hSi : ∀ x ∈ S, I64 x) (hNi : ∀ x ∈ N, I64 x) (hSl : S.length ≤ 40) (hNl : N.length ≤ 40) :
    Calls Try.prog 6 #[sv, nv] w (ClosedPost w S.length) := by
  obtain ⟨sa, sc, rfl, _, _⟩ := hS.sl
  obtain ⟨na, nc, rfl, _, _⟩ := hN.sl
  have HS := Lib.hid hS
  have HN := Lib.hid hN
  have SI := Lib.hid hSi
  have NI := Lib.hid hNi
  clear hS hN hSi hNi
  have F0 := Lib.hid (ClAt.first (Blk.new w 59 (arrV fun _ => .slice none 0 0)) (Nat.le_refl _))
  have K0 : Hid (Kept (fun _ => False) w (w.alloc (.cells (arrV fun _ => .slice none 0 0) 59))) := Lib.hid ((Kept.refl _ _).alloc _)
  go_enter Try.func6, Try.ntmps6
  go_upto_region 3 with fail
  rw [← arrV_nil]
  generalize w.alloc (.cells (arrV fun _ => .slice none 0 0) 59) = w0 at *
  go_wp2_with fail
  go_loopw [7, 5] (fun iv lv wr => ∃ (n : Nat) (W : List Ent) (X : Nat → Value) (V : Nat → List Dot), iv = .int .i64 n ∧ n ≤ S.length ∧ W.length ≤ n ∧ ClAt w.heap.size w.heap.size W X V lv wr ∧ Kept (fun _ => False) w wr) (fun iv _ _ => S.length - (intOf iv).toNat)
  case atStart => exact ⟨0, [], _, _, rfl, Nat.zero_le _, Nat.le_refl _, F0.out, K0.out⟩
  case round =>
    obtain ⟨n, W, X, V, rfl, hn, hWn, hC, hk⟩ := hrel
    clear F0 K0
    have hn0 : (0 : Int) ≤ n := by omega
    by_cases hlt : n < S.length
    case neg =>
      obtain rfl : n = S.length := by omega
      have hnl : ¬ (S.length : Int) < S.length := by omega
      have HC := Lib.hid hC
      clear hC
      go_wp2_with fail
      go_ret
      exact ⟨_, W, _, X, V, rfl, HC.out, hWn, hk⟩
    case pos =>
      have hltI : (n : Int) < S.length := by omega
      obtain ⟨x, hx⟩ := get_of_lt hlt
      obtain ⟨g, o, c, hv, hcs⟩ := SlAt.int (HS.out.kept hk) (by omega)
      injection hv with e1 _ e2
      subst e1 e2
      have hxc := hcs n x hx
      have hxi := SI.out x (List.mem_of_getElem? hx)
      unfold I64 at hxi
      have hrlt := Int.tmod_lt_of_pos x (show (0 : Int) < 5 by decide)
      have hrgt : -5 < x.tmod 5 := by
        have := Int.neg_tmod x 5
        have := Int.tmod_lt_of_pos (-x) (show (0 : Int) < 5 by decide)
        omega
      obtain ⟨t, ht1, ht5, hcase⟩ : ∃ t : Nat, 1 ≤ t ∧ t ≤ 5 ∧ ((x.tmod 5 < 0 ∧ -(x.tmod 5) + 1 = (t : Int)) ∨ (¬ x.tmod 5 < 0 ∧ x.tmod 5 + 1 = (t : Int))) := by
        by_cases hneg : x.tmod 5 < 0
        · exact ⟨(-(x.tmod 5) + 1).toNat, by omega, by omega, .inl ⟨hneg, by omega⟩⟩
        · exact ⟨(x.tmod 5 + 1).toNat, by omega, by omega, .inr ⟨hneg, by omega⟩⟩
      clear hcs hx
      go_upto_if 26 with fail
      go_cut [8] (fun v wx => v = .int .i64 ((t : Int) - 1) ∧ wr = wx)
      case first =>
        rcases hcase with ⟨hneg, ht⟩ | ⟨hneg, ht⟩
        · go_wp2_with fail
          go_meet
          case rel => exact ⟨by congr 1; omega, rfl⟩
        · go_wp2_with fail
          go_meet
          case rel => exact ⟨by congr 1; omega, rfl⟩
      case rest =>
        obtain ⟨rfl, rfl⟩ := hcut
        clear hcase hxc hrlt hrgt hxi
        obtain ⟨hX, hVl, hVK⟩ := hC.has t ht1 ht5
        obtain ⟨xa, xc, hXt⟩ := owns_sl hX
        have hxt : wr.cell? ⟨w.heap.size, t, none⟩ = some (.slice xa (V t).length xc) := by rw [← hXt]; exact hC.arr.cell' (arrV_get X (by omega))
        rw [hXt] at hX
        have HX := Lib.hid hX
        have HC := Lib.hid hC
        have HVK := Lib.hid hVK
        have HXT := Lib.hid hXt
        have ht17 : (t : Int) < 17 := by omega
        have ht0 : (0 : Int) ≤ t := by omega
        clear hX hC hVK hXt
        have hWI : (0 : Int) ≤ W.length := by omega
        go_upto_region 11 with fail
        obtain ⟨_, hrow0⟩ := own_of (E := entE) HC.out.row
        have hlv : ∃ la lc, u5 = .slice la W.length lc := by
          rcases hrow0 with ⟨h1, h2⟩ | ⟨g2, cap, h1, _⟩
          · exact ⟨none, 0, by rw [h1, h2]; rfl⟩
          · exact ⟨_, cap, h1⟩
        obtain ⟨la, lc, rfl⟩ := hlv
        clear hrow0
        go_cut [49] (fun v wx => (∃ b : Bool, v = .bool b ∧ (b = true → ∃ y, N[n]? = some y ∧ 0 ≤ y ∧ 0 < W.length)) ∧ wr = wx)
        case first =>
          by_cases h1 : n < N.length
          case neg =>
            have h1I : ¬ (n : Int) < N.length := by omega
            go_wp2_with fail
            go_meet
            case rel => exact ⟨⟨_, rfl, by simp⟩, rfl⟩
          case pos =>
            have h1I : (n : Int) < N.length := by omega
            obtain ⟨y, hy⟩ := get_of_lt h1
            obtain ⟨g2, o2, c2, hv, hcs⟩ := SlAt.int (HN.out.kept hk) (by omega)
            injection hv with e1 _ e2
            subst e1 e2
            have hyc := hcs n y hy
            clear hcs
            have HY := Lib.hid hy
            clear hy
            by_cases h2 : 0 ≤ y
            case neg =>
              go_wp2_with fail
              go_meet
              case rel => exact ⟨⟨_, rfl, by simp⟩, rfl⟩
            case pos =>
              by_cases h3 : 0 < W.length
              case neg =>
                have h3I : ¬ (0 : Int) < W.length := by omega
                go_wp2_with fail
                go_meet
                case rel => exact ⟨⟨_, rfl, by simp⟩, rfl⟩
              case pos =>
                have h3I : (0 : Int) < W.length := by omega
                go_wp2_with fail
                go_meet
                case rel => exact ⟨⟨_, rfl, fun _ => ⟨y, HY.out, h2, h3⟩⟩, rfl⟩
        case rest =>
          obtain ⟨⟨b, rfl, hb⟩, rfl⟩ := hcut
          have HB := Lib.hid hb
          clear hb
          go_upto_if 49 with fail
          go_cut [9] (fun v wx => (∃ U, wx.ownsRow w.heap.size 27 2 v U.length (dotE.flat U) ∧ U.length ≤ 17 ∧ Knows (W.map key) t U) ∧ ClAt w.heap.size w.heap.size W X V (.slice la W.length lc) wx ∧ Kept (fun _ => False) w wx)
          case first =>
            cases b with
            | false =>
              go_wp2_with fail
              go_meet
              case rel => exact ⟨⟨V t, HX.out, hVl, HVK.out⟩, HC.out, hk⟩
            | true =>
              obtain ⟨y, hy, hy0, hW0⟩ := HB.out rfl
              obtain ⟨g2, o2, c2, hv, hcs⟩ := SlAt.int (HN.out.kept hk) (by have := (List.getElem?_eq_some_iff.1 hy).1; omega)
              injection hv with e1 _ e2
              subst e1 e2
              have hyc := hcs n y hy
              have hyi := NI.out y (List.mem_of_getElem? hy)
              unfold I64 at hyi
              have hnN := (List.getElem?_eq_some_iff.1 hy).1
              have hnNI : (n : Int) < N.length := by omega
              have hLp : (0 : Int) < W.length := by omega
              have hL0b : ((W.length : Int) == 0) = false := beq_eq_false_iff_ne.2 (by omega)
              have hm1 := Int.tmod_lt_of_pos y hLp
              have hm0 : 0 ≤ y.tmod W.length := Int.tmod_nonneg _ hy0
              obtain ⟨m, hm⟩ : ∃ m : Nat, y.tmod W.length = (m : Int) := ⟨(y.tmod W.length).toNat, by omega⟩
              have hmW : m < W.length := by omega
              have hmI : (m : Int) < W.length := by omega
              have hm00 : (0 : Int) ≤ m := by omega
              obtain ⟨e, he⟩ := get_of_lt hmW
              obtain ⟨_, ⟨h1, h2⟩ | ⟨lb, lcap, hv2, hlb, hO⟩⟩ := own_of (E := entE) HC.out.row
              · rw [h2] at hmW; simp at hmW
              injection hv2 with e1 _ e2
              subst e1 e2
              have HO := Lib.hid hO
              have HE := Lib.hid he
              have CE := Lib.hid (HC.out.ents e (List.mem_of_getElem? he))
              have KEW := Lib.hid (HC.out.cl.knew (i := m) (k := key e) (by rw [List.getElem?_map, he]; rfl))
              have B7 := Lib.hid (Blk.new wr 34 zeroOp)
              have k8 : Kept (fun _ => False) wr ((wr.alloc (.cells zeroOp 34)).setRow wr.heap.size (opA e.v)) := ((Kept.refl _ _).alloc _).setRow (fun h => by omega) _
              have K8 := Lib.hid k8
              clear hO he hcs hy hm1 hm0 k8 hmW HB
              go_upto_region 13 with (first
                | (refine wpList_load_elem (E := entE) rfl 34 _ rfl (i := m) rfl HO.out HE.out Try.underlying34 rfl size_op ?_)
                | (refine wpList_store_row rfl 34 _ _ rfl wr.heap.size (opA e.v) rfl rfl 34 zeroOp B7.out (by rw [opA_size]; exact size_op) (by rw [opA_size]; rfl) (opA_one _) ?_))
              have B8 := Lib.hid (B7.out.row (opA e.v))
              have C8 := Lib.hid (HC.out.kept K8.out)
              have U8 := Lib.hid (owns_keep HX.out K8.out (fun _ _ h => h))
              have E8 := Lib.hid (CE.out.keep K8.out (fun _ _ _ h => h))
              have hsz := K8.out.size
              generalize hbx : wr.heap.size = bx at *
              have HBX := Lib.hid hbx
              clear B7 hbx hsz hm hyc
              generalize (wr.alloc (.cells zeroOp 34)).setRow bx (opA e.v) = w8 at *
              have b0 : w8.cell? ⟨bx, 0, none⟩ = some (.int .i64 e.v.dot.site) := B8.out.cell' (i := 0) rfl
              have b1 : w8.cell? ⟨bx, 1, none⟩ = some (.int .i64 e.v.dot.seq) := B8.out.cell' (i := 1) rfl
              have b2 : w8.cell? ⟨bx, 2, none⟩ = some (.slice e.v.deps.a e.v.deps.n e.v.deps.c) := B8.out.cell' (i := 2) rfl
              go_wp2_with (first
                | (go_at_call 19; refine (radd_any (owns_slAt (E := dotE) E8.out.deps) (Nat.le_trans E8.out.len (by decide)) e.v.dot).mono ?_; rintro r w9 ⟨v9, rfl, ha9, hk9⟩; have A9 := Lib.hid (ha9.2 CE.out.why); have K9 := Lib.hid hk9; clear ha9 hk9)
                | (go_at_call 20; refine (rmerge_any (owns_slAt (E := dotE) (owns_keep U8.out K9.out (fun _ _ h => h))) (owns_slAt (E := dotE) A9.out) (Nat.le_trans hVl (by decide)) (Nat.le_trans (vecOf_len _ _) (by decide))).mono ?_; rintro r w10 ⟨v10, rfl, ho10, hk10⟩))
              go_meet
              case rel =>
                have k10 : Kept (fun _ => False) w8 w10 := K9.out.trans hk10 (fun _ _ h => h)
                exact ⟨⟨_, owns_lower ho10 (by have := hk.size; have := K8.out.size; have := K9.out.size; omega), merge_len _ _, HVK.out.merge KEW.out⟩, C8.out.kept k10, (hk.trans K8.out (fun _ _ h => h)).trans k10 (fun _ _ h => h)⟩
          case rest =>
            clear HB HX hxt HC hk HVK
            obtain ⟨⟨U, hU, hUl, hUK⟩, hC, hk⟩ := hcut
            obtain ⟨ua, uc, rfl⟩ := owns_sl hU
            obtain ⟨hX, hVl2, hVK⟩ := hC.has t ht1 ht5
            have hxt := hC.arr.cell' (arrV_get X (show t < 17 by omega))
            rw [HXT.out] at hX hxt
            have HU := Lib.hid hU
            have HC := Lib.hid hC
            have HK := Lib.hid hk
            have HUK := Lib.hid hUK
            have hget := hVK.get ⟨ht1, by omega⟩
            have HG := Lib.hid ((rget_any (owns_slAt (E := dotE) hX) (Nat.le_trans hVl2 (by decide)) (t : Int)).mono (R' := fun r w' => r = .returned (.int .i64 (cnt (W.map key) t)) ∧ Kept (fun _ => False) _ w') (fun r w' h => by rw [hget] at h; exact h))
            have hgetU := hUK.get ⟨ht1, by omega⟩
            have HGU := Lib.hid (fun (w' : World) (hk' : Kept (fun _ => False) wc w') => (rget_any ((owns_slAt (E := dotE) hU).kept hk') (Nat.le_trans hUl (by decide)) (t : Int)).mono (R' := fun r w'' => r = .returned (.int .i64 (cnt (W.map key) t)) ∧ Kept (fun _ => False) w' w'') (fun r w' h => by rw [hgetU] at h; exact h))
            have hbd := cnt_bd t (W.map key)
            rw [List.length_map] at hbd
            have DN := Lib.hid (show nextD (W.map key) t = ⟨t, cnt (W.map key) t + 1⟩ from rfl)
            generalize hq : cnt (W.map key) t = q at *
            have HQ := Lib.hid hq
            have hq0 : 0 ≤ q := hbd.1
            have hq1 : q ≤ 1000 := by omega
            clear hU hC hk hUK hX hVK hget hgetU hbd hq hVl2 hVl
            go_upto_region 16 with (first
              | (go_at_call 21; refine HG.out.mono ?_; rintro r w1 ⟨rfl, hk1⟩; have B1 := Lib.hid (Blk.new w1 34 zeroOp))
              | (refine wpList_store_row rfl 34 _ _ rfl w1.heap.size (opA (joinV ⟨t, q + 1⟩ ⟨none, 0, 0⟩)) rfl rfl 34 zeroOp B1.out (by rw [opA_size]; exact size_op) (by rw [opA_size]; rfl) (opA_one _) ?_))
            have K1 := Lib.hid (hk1.trans (((Kept.refl (fun _ => False) w1).alloc (.cells zeroOp 34)).setRow (g := w1.heap.size) (fun h => by omega) (opA (joinV ⟨t, q + 1⟩ ⟨none, 0, 0⟩))) (fun _ _ h => h))
            have B2 := Lib.hid (B1.out.row (opA (joinV ⟨t, q + 1⟩ ⟨none, 0, 0⟩)))
            have hb1 := hk1.size
            generalize hbx : w1.heap.size = bx at *
            have HBX := Lib.hid hbx
            clear B1 hk1 hbx HG hxt
            generalize (w1.alloc (.cells zeroOp 34)).setRow bx (opA (joinV ⟨t, q + 1⟩ ⟨none, 0, 0⟩)) = w2 at *
            have b1 : w2.cell? ⟨bx, 1, none⟩ = some (.int .i64 (q + 1)) := B2.out.cell' (i := 1) rfl
            have KD2 := (Kept.refl (fun _ => False) w2).drew
            have hwq : IntKind.i64.wrap q = q := IntWalk.i64_in _ (by omega)
            go_wp2_with fail
            go_region_held3 (fun w' => Kept (fun _ => False) w2 w' ∧ w'.cell? ⟨bx, 1, none⟩ = some (.int .i64 (q + 1))) (first | (with_reducible exact ⟨KD2, b1⟩) | go_keep)
              (first | (go_simp; go_at_call 21; refine (HGU.out _ (K1.out.trans KD2 (fun _ _ h => h))).mono ?_; rintro r w3 ⟨rfl, hk3⟩; have KE := KD2.trans hk3 (fun _ _ h => h); have b1 := hk3.cell b1))
            have K3 := Lib.hid (K1.out.trans KE (fun _ _ h => h))
            have B3 := Lib.hid (KE.blk (fun h => h) B2.out)
            have KS3 := KE.size
            have hb2 := B2.out.lt
            clear b1 KD2 KE B2 hk3 K1 hwq
            generalize Hw : w3 = w3' at *
            clear Hw
            go_upto_region 18 with (first
              | (go_at_call 20; refine (rmerge_any ((owns_slAt (E := dotE) HU.out).kept K3.out) (slAt_nil w3') (Nat.le_trans hUl (by decide)) (by simp)).mono ?_; rintro r w4 ⟨v4, rfl, ho4, hk4⟩; obtain ⟨a4, c4, rfl⟩ := owns_sl ho4; have B4 := hk4.blk (fun h => h) B3.out; have f2 := B4.frozen 2; have c2 := B4.cell' (i := 2) rfl))
            have hn4 := hk4.size
            have K4 : Hid (Kept (fun _ => False) wc (w4.setCell ⟨bx, 2, none⟩ (.slice a4 (mergeV U []).length c4))) := Lib.hid ((K3.out.trans hk4 (fun _ _ h => h)).setCell (p := ⟨bx, 2, none⟩) (fun h => by have h : bx < wc.heap.size := h; omega) _)
            have B5 : Hid (Blk (w4.setCell ⟨bx, 2, none⟩ (.slice a4 (mergeV U []).length c4)) bx 34 (opA (nextE (W.map key) t U ⟨a4, (mergeV U []).length, c4⟩).v)) := Lib.hid (by
              have h := B4.set_ 2 (.slice a4 (mergeV U []).length c4)
              have e : (opA (joinV ⟨t, q + 1⟩ ⟨none, 0, 0⟩)).setIfInBounds 2 (.slice a4 (mergeV U []).length c4) = opA (nextE (W.map key) t U ⟨a4, (mergeV U []).length, c4⟩).v := by
                unfold nextE
                rw [DN.out]
                rfl
              rw [e] at h
              exact h)
            have kS : Kept (fun b => b = bx) w4 (w4.setCell ⟨bx, 2, none⟩ (.slice a4 (mergeV U []).length c4)) := (Kept.refl (fun b => b = bx) w4).setCell (p := ⟨bx, 2, none⟩) (fun _ => rfl) _
            have O5 := Lib.hid (owns_lower (base' := w.heap.size) (owns_keep ho4 kS (owns_far ho4 B4 (of_decide_eq_true (by kernel_rfl)))) (by have := HK.out.size; have := K3.out.size; omega))
            generalize hml : (mergeV U []).length = ml at *
            have HML := Lib.hid hml
            clear hml
            have C5 := Lib.hid (HC.out.kept K4.out)
            have U5 := Lib.hid (owns_keep HU.out K4.out (fun _ _ h => h))
            clear c2 f2 B4 ho4 hk4 kS B3 K3
            generalize w4.setCell ⟨bx, 2, none⟩ (.slice a4 ml c4) = w5 at *
            have x0 : w5.cell? ⟨bx, 0, none⟩ = some (.int .i64 t) := B5.out.cell' (i := 0) rfl
            have x1 : w5.cell? ⟨bx, 1, none⟩ = some (.int .i64 (q + 1)) := by rw [← HQ.out]; exact B5.out.cell' (i := 1) rfl
            have x2 : w5.cell? ⟨bx, 2, none⟩ = some (.slice a4 ml c4) := B5.out.cell' (i := 2) rfl
            have x3 : w5.cell? ⟨bx, 3, none⟩ = some (.int .i64 3) := B5.out.cell' (i := 3) rfl
            have x4 : w5.cell? ⟨bx, 4, none⟩ = some (.int .i64 0) := B5.out.cell' (i := 4) rfl
            have x5 : w5.cell? ⟨bx, 5, none⟩ = some (.int .i64 0) := B5.out.cell' (i := 5) rfl
            have x6 : w5.cell? ⟨bx, 6, none⟩ = some (.int .i64 0) := B5.out.cell' (i := 6) rfl
            have x7 : w5.cell? ⟨bx, 7, none⟩ = some (.int .i64 0) := B5.out.cell' (i := 7) rfl
            have x8 : w5.cell? ⟨bx, 8, none⟩ = some (.string ⟨#[]⟩) := B5.out.cell' (i := 8) rfl
            have x9 : w5.cell? ⟨bx, 9, none⟩ = some (.slice none 0 0) := B5.out.cell' (i := 9) rfl
            have x10 : w5.cell? ⟨bx, 10, none⟩ = some (.int .i64 9) := B5.out.cell' (i := 10) rfl
            have LD : Hid (SlAt entE (w5.alloc (.cells #[.int .i64 t, .int .i64 (q + 1), .slice a4 ml c4, .int .i64 3, .int .i64 0, .int .i64 0, .int .i64 0, .int .i64 0, .string ⟨#[]⟩, .slice none 0 0, .int .i64 9] 34)) (.slice (some ⟨w5.heap.size, 0, none⟩) 1 1) [nextE (W.map key) t U ⟨a4, ml, c4⟩]) := Lib.hid (by rw [← HQ.out]; exact lit_op w5 (nextE (W.map key) t U ⟨a4, ml, c4⟩))
            have kL : Kept (fun _ => False) w5 (w5.alloc (.cells #[.int .i64 t, .int .i64 (q + 1), .slice a4 ml c4, .int .i64 3, .int .i64 0, .int .i64 0, .int .i64 0, .int .i64 0, .string ⟨#[]⟩, .slice none 0 0, .int .i64 9] 34)) := (Kept.refl _ _).alloc _
            have RL := Lib.hid (C5.out.row.alloc (.cells #[.int .i64 t, .int .i64 (q + 1), .slice a4 ml c4, .int .i64 3, .int .i64 0, .int .i64 0, .int .i64 0, .int .i64 0, .string ⟨#[]⟩, .slice none 0 0, .int .i64 9] 34))
            have KL := Lib.hid kL
            have ZL : Hid (w.heap.size ≤ (w5.alloc (.cells #[.int .i64 t, .int .i64 (q + 1), .slice a4 ml c4, .int .i64 3, .int .i64 0, .int .i64 0, .int .i64 0, .int .i64 0, .string ⟨#[]⟩, .slice none 0 0, .int .i64 9] 34)).heap.size) := Lib.hid (by have := HK.out.size; have := K4.out.size; have := kL.size; omega)
            have hWl : W.length ≤ 40 := by omega
            clear kL
            go_upto_region 19 with (at_builtin; (refine wpList_append_row entE rfl (.tmp 91) (.tmp 93) 24 rfl w.heap.size 34 _ 128 Try.underlying24 info_op rfl rfl rfl RL.out LD.out (by unfold maxLen; simp; omega) (by simp; omega) ZL.out ?_); (intro v6 w6 ho6 hk6))
            have LB := Lib.hid (owns_spared HC.out.row)
            have hk5 : Kept (fun b => (Value.slice la W.length lc).ownBlock = some b) w5 w6 := (KL.out.mono (S' := fun b => (Value.slice la W.length lc).ownBlock = some b) (fun _ _ h => h.elim)).trans hk6 (fun _ _ h => h)
            have hneb : ∀ b, (Value.slice la W.length lc).ownBlock = some b → b < wc.heap.size := fun b hb => by obtain ⟨cs, hc⟩ := LB.out b hb; exact hc.lt
            have nb1 : ¬ (Value.slice la W.length lc).ownBlock = some bx := fun e => by have := hneb bx e; omega
            have nb2 : ¬ (Value.slice la W.length lc).ownBlock = some w.heap.size := fun e => by obtain ⟨cs, hc⟩ := LB.out _ e; exact HC.out.arr.ne_ hc (of_decide_eq_true (by kernel_rfl)) rfl
            have nd : ∀ {b cs}, Blk w5 b 27 cs → ¬ (Value.slice la W.length lc).ownBlock = some b := fun {b cs} hb e => by
              obtain ⟨cs2, hc⟩ := owns_spared C5.out.row b e
              exact hc.ne_ hb (of_decide_eq_true (by kernel_rfl)) rfl
            have B6 := Lib.hid (hk5.blk nb1 B5.out)
            have A6 := Lib.hid (hk5.blk nb2 C5.out.arr)
            have O6 := Lib.hid (owns_keep O5.out hk5 (fun b hb e => by obtain ⟨cs, hc⟩ := owns_spared O5.out b hb; exact nd hc e))
            have K6 := Lib.hid ((K4.out.mono (S' := fun b => (Value.slice la W.length lc).ownBlock = some b) (fun _ _ h => h.elim)).trans hk5 (fun _ _ h => h))
            have R6 := Lib.hid ho6
            have U6 := Lib.hid (owns_keep U5.out hk5 (fun b hb e => by obtain ⟨cs, hc⟩ := owns_spared U5.out b hb; exact nd hc e))
            have WH : Hid (whyAdd U ⟨t, q + 1⟩ = 0) := Lib.hid (by rw [← DN.out]; exact HUK.out.why ⟨ht1, by omega⟩ (by simp; omega))
            have hz6 : Hid (w.heap.size ≤ w6.heap.size) := Lib.hid (by have := HK.out.size; have := K6.out.size; omega)
            have hbw : Hid (w.heap.size < w6.heap.size) := Lib.hid A6.out.lt
            clear x0 x1 x2 x3 x4 x5 x6 x7 x8 x9 x10 hk5 hk6 ho6 nb1 nb2 nd KL LD RL ZL B5 C5 O5 K4 U5
            have b0 : w6.cell? ⟨bx, 0, none⟩ = some (.int .i64 t) := B6.out.cell' (i := 0) rfl
            have b1 : w6.cell? ⟨bx, 1, none⟩ = some (.int .i64 (q + 1)) := by rw [← HQ.out]; exact B6.out.cell' (i := 1) rfl
            go_wp2_with (first
              | (go_at_call 19; refine (radd_any (owns_slAt (E := dotE) U6.out) (Nat.le_trans hUl (by decide)) ⟨t, q + 1⟩).mono ?_; rintro r w7 ⟨v7, rfl, ha7, hk7⟩; have A7 := Lib.hid (ha7.2 WH.out); obtain ⟨a7, z7, rfl⟩ := owns_sl A7.out; have K7 := Lib.hid hk7; have R7 := hk7.blk (fun h => h) A6.out; have f7 := R7.frozen t; have c7 := R7.cell' (arrV_get X (show t < 17 by omega)); clear ha7 hk7))
            have A8 := Lib.hid (R7.set_ t (.slice a7 (addV U ⟨t, q + 1⟩).length z7))
            have k8 : Kept (fun b => b = w.heap.size) w6 (w7.setCell ⟨w.heap.size, t, none⟩ (.slice a7 (addV U ⟨t, q + 1⟩).length z7)) := (K7.out.mono (S' := fun b => b = w.heap.size) (fun _ _ h => h.elim)).setCell (p := ⟨w.heap.size, t, none⟩) (fun _ => rfl) _
            have K8 := Lib.hid k8
            have N8 := Lib.hid (owns_keep A7.out ((Kept.refl (fun b => b = w.heap.size) w7).setCell (p := ⟨w.heap.size, t, none⟩) (fun _ => rfl) (.slice a7 (addV U ⟨t, q + 1⟩).length z7)) (owns_far A7.out R7 (of_decide_eq_true (by kernel_rfl))))
            clear R7 f7 c7 k8
            go_roundw
            case rel =>
              have A9 := A8.out
              rw [arrV_set] at A9
              refine ⟨n + 1, W ++ [nextE (W.map key) t U ⟨a4, ml, c4⟩], _, _, by go_num, by omega, by simp; omega, HC.out.more ⟨ht1, ht5⟩ (by omega) HUK.out ?_ ?_ ?_ A9 ?_, ?_⟩
              · rw [HML.out]
                exact owns_keep O6.out K8.out (owns_far O6.out A6.out (of_decide_eq_true (by kernel_rfl)))
              · rw [DN.out]
                exact owns_lower N8.out hz6.out
              · have h := owns_keep R6.out K8.out (owns_far R6.out A6.out (of_decide_eq_true (by kernel_rfl)))
                rw [List.length_append] at h
                exact h
              · refine (K6.out.mono (S' := fun b => b = w.heap.size ∨ ∃ cs, Blk wc b 34 cs) (fun b _ e => .inr (LB.out b e))).trans K8.out (fun b _ e => .inl e)
              · refine (HK.out.trans K6.out (fun b hb e => ?_)).trans K8.out (fun b hb e => ?_)
                · exact absurd (owns_new HC.out.row b e) (by omega)
                · omega
            case measure => simp [intOf] <;> omega
end Go.Proofs.Ytaaeomapbigfgaa
