/- hearsaylaw11.TreeTwo, walked. -/
import Derived.Test.YtlafodnaifghcaaGreatG40
namespace Go.Proofs.YtlafodnaifghcaaGreat.Tr
open Go.RowKit Go.Sort Go.Proofs.YtlafodnaifghcaaGreat.St Go.Proofs.YtlafodnaifghcaaGreat Go.Proofs.YtlafodnaifghcaaGreat.Gl
attribute [local go_sem] Oper.semAt_some
theorem tj_made (w : World) : TJ w (w.heap.size + 1 + 1) (w.heap.size + 1 + 1 + 1) w.heap.size (w.heap.size + 1) [] (.slice none 0 0) (· = w.heap.size) [] (.slice none 0 0) (· = w.heap.size + 1)
    ((((w.alloc (.cells #[.slice none 0 0, .map none] 30)).alloc (.cells #[.slice none 0 0, .map none] 30)).alloc (.cells #[.slice none 0 0] 33)).alloc (.cells #[.slice none 0 0] 33)) := by
  obtain ⟨w1, h1⟩ : ∃ w1, w.alloc (.cells #[.slice none 0 0, .map none] 30) = w1 := ⟨_, rfl⟩
  have s1 : w1.heap.size = w.heap.size + 1 := by rw [← h1]; exact World.size_alloc ..
  have k1 : Kept (fun _ => False) w w1 := by rw [← h1]; exact (Kept.refl _ _).alloc _
  have p1 := pt_made (Kept.refl (fun _ => False) w)
  have p2 := pt_made k1
  rw [h1] at p1 ⊢
  obtain ⟨w2, h2⟩ : ∃ w2, w1.alloc (.cells #[.slice none 0 0, .map none] 30) = w2 := ⟨_, rfl⟩
  have s2 : w2.heap.size = w.heap.size + 1 + 1 := by rw [← h2, World.size_alloc, s1]
  have k2 : Kept (fun _ => False) w1 w2 := by rw [← h2]; exact (Kept.refl _ _).alloc _
  rw [h2] at p2 ⊢
  have j1 := (p1.still k2).boxed
  have k3 : Kept (fun _ => False) w2 (w2.alloc (.cells #[.slice none 0 0] 33)) := (Kept.refl _ _).alloc _
  have j2 := (p2.still k3).boxed
  rw [World.size_alloc, s2] at j2
  rw [s2] at j1
  rw [s1] at j2
  refine ⟨j1.still ((Kept.refl _ _).alloc _), j2, fun x hx hy => by omega, by omega, by omega, by omega⟩
set_option maxRecDepth 100000 in
set_option maxHeartbeats 8000000 in
theorem two_any {w : World} {v u : Value} {L1 L2 : List StV} (h1 : SlAt stE w v L1) (hs1 : StepsIn w L1) (h2 : SlAt stE w u L2) (hs2 : StepsIn w L2) :
    Calls Tryz.prog 4 #[v, u] w fun e w' => e = .returned (.bool true) ∧ Kept (fun _ => False) w w' := by
  obtain ⟨la, lc, rfl, _, _⟩ := h1.sl
  obtain ⟨ma, mc, rfl, _, _⟩ := h2.sl
  have HL1 := Lib.hid h1
  have HS1 := Lib.hid hs1
  have HL2 := Lib.hid h2
  have HS2 := Lib.hid hs2
  have MU1 := Lib.hid (much_any h1 fun s hm => by obtain ⟨rs, h9⟩ := hs1 s hm; exact h9.text)
  have MU2 := Lib.hid (fun (_ : True) => much_any h2 fun s hm => by obtain ⟨rs, h9⟩ := hs2 s hm; exact h9.text)
  clear h1 hs1 h2 hs2
  go_enter Tryz.func4, Tryz.ntmps4
  go_wp2_with (first
    | (go_at_call 7; refine (MU2.out KM.out).mono ?_; rintro e w1 ⟨b2, rfl, hf2, rfl⟩)
    | (go_at_call 7; refine MU1.out.mono ?_; rintro e w1 ⟨b1, rfl, hf1, rfl⟩; have KM := Lib.hid True.intro)
    | (go_at_call 8; refine (known_any _).mono ?_; rintro e w1 ⟨rfl, hk⟩)
    | (go_at_call 9; refine (new_any _).mono ?_; rintro e w1 ⟨rfl, rfl⟩))
  · go_ret
    exact ⟨rfl, hk⟩
  · go_ret
    exact ⟨rfl, hk⟩
  have F1 := Lib.hid (hf1 (by simpa using ‹¬ b1 = true›))
  have F2 := Lib.hid (hf2 ‹b2 = false›)
  have J := Lib.hid (tj_made w)
  obtain ⟨zd, hzd⟩ : ∃ z, w.heap.size + 1 + 1 + 1 = z := ⟨_, rfl⟩
  rw [hzd] at J ⊢
  obtain ⟨zc, hzc⟩ : ∃ z, w.heap.size + 1 + 1 = z := ⟨_, rfl⟩
  rw [hzc] at J ⊢
  clear hf1 hf2 hzc hzd MU1 MU2 KM
  have FL1 := F1.out.len
  have FL2 := F2.out.len
  go_loopw [5, 6, 9] (fun av bv iv wr => ∃ (n a b : Nat) (va vb : Option Addr) (vc vd : Nat) (M N : List Nd) (Ya Yb : Nat → Prop), av = .pointer (some ⟨a, 0, none⟩) ∧ bv = .pointer (some ⟨b, 0, none⟩) ∧ iv = .int .i64 n ∧ n ≤ 200 ∧ TJ w zc zd a b M (.slice va M.length vc) Ya N (.slice vb N.length vd) Yb wr ∧ OkN M (textN (L1.take n)) ∧ OkN N (textN (L2.take n))) (fun _ _ iv _ => 200 - (intOf iv).toNat)
  case atStart => exact ⟨0, _, _, none, none, 0, 0, [], [], _, _, rfl, rfl, rfl, Nat.zero_le _, J.out, okN_nil _, okN_nil _⟩
  case round =>
    obtain ⟨n, a, b, va, vb, vc, vd, M, N, Ya, Yb, rfl, rfl, rfl, hn, hj, hoa, hob⟩ := hrel
    have hn0 : (0 : Int) ≤ n := by omega
    have HJ := Lib.hid hj
    have HA := Lib.hid hoa
    have HB := Lib.hid hob
    clear hj hoa hob J
    have e1 : IntKind.i64.wrap ((n : Int) + 1) = (n : Int) + 1 := IntWalk.i64_in _ (by omega)
    have NA : Hid (textN (L1.take n) ≤ 20000 ∧ textN (L2.take n) ≤ 20000 ∧ textN (L1.take (n + 1)) ≤ 20000 ∧ textN (L2.take (n + 1)) ≤ 20000) := Lib.hid ⟨Nat.le_trans (textN_take L1 n) F1.out.all, Nat.le_trans (textN_take L2 n) F2.out.all, Nat.le_trans (textN_take L1 (n + 1)) F1.out.all, Nat.le_trans (textN_take L2 (n + 1)) F2.out.all⟩
    by_cases q1 : n < L1.length
    case neg =>
      have hq1 : ¬ (n : Int) < L1.length := by omega
      by_cases q2 : n < L2.length
      case neg =>
        have hq2 : ¬ (n : Int) < L2.length := by omega
        have z0 := HJ.out.one.cell
        have z1 := HJ.out.two.cell
        go_wp2_with (first
          | (go_at_call 11; refine (J8.out.two.pt.alike (Nat.le_trans HB.out.len (by have := NA.out; omega)) fun n hn => (HB.out.ok n hn).1).mono ?_; rintro e w9 ⟨rfl, hk9⟩; have J9 := Lib.hid (J8.out.still hk9); clear hk9)
          | (go_at_call 11; refine (HJ.out.one.pt.alike (Nat.le_trans HA.out.len (by have := NA.out; omega)) fun n hn => (HA.out.ok n hn).1).mono ?_; rintro e w8 ⟨rfl, hk8⟩; have J8 := Lib.hid (HJ.out.still hk8); have z2 := J8.out.two.cell; clear hk8)
          | (go_at_call 8; refine (known_any _).mono ?_; rintro e w1 ⟨rfl, hk⟩))
        go_ret
        exact ⟨rfl, J9.out.one.kept.trans hk fun _ _ h => h⟩
      case pos =>
        have hq2 : (n : Int) < L2.length := by omega
        have z1 := HJ.out.two.cell
        obtain ⟨x2, hx⟩ := get_of_lt q2
        have hxm := List.mem_of_getElem? hx
        obtain ⟨rs, hst⟩ := HS2.out x2 hxm
        have hfx := F2.out.each x2 hxm
        have hN : textN (L2.take n) ≤ 20000 := Nat.le_trans (textN_take L2 n) F2.out.all
        have htk : textN (L2.take (n + 1)) = textN (L2.take n) + x2.text.size := by rw [show L2.take (n + 1) = L2.take n ++ [x2] by rw [List.take_add_one, hx]; rfl, textN_snoc]
        obtain ⟨lg2, lo2, lc', e2, _, hcs⟩ := SlAt.stepc (HL2.out.kept HJ.out.one.kept) (by omega)
        cases e2
        obtain ⟨c0, c1, c2, c3, c4, c5, c6, c7, c8⟩ := hcs n x2 hx
        have HD2 := Lib.hid (does_any HJ.out.drew.two.pt HB.out (by omega) hst (hst.len hfx.1) (by omega))
        have ho2 := HB.out.step x2 rs
        rw [← htk] at ho2
        have OK2 := Lib.hid ho2
        obtain ⟨R2, hR⟩ : ∃ R, goOn x2 rs N = R := ⟨_, rfl⟩
        rw [hR] at HD2 OK2
        clear hcs hx hxm hst hfx hN htk ho2 hR
        have et : L1.take (n + 1) = L1.take n := by rw [List.take_of_length_le (by omega), List.take_of_length_le (by omega)]
        have HA2 : Hid (OkN M (textN (L1.take (n + 1)))) := Lib.hid (by rw [et]; exact HA.out)
        clear et
        go_upto_region 17 with fail
        go_region_with (go_at_call 10; refine HD2.out.mono ?_; rintro e w7 ⟨g2, ua2, uc2, rfl, hp, hk⟩; have J7 := Lib.hid (HJ.out.drew.second hp hk); have bz := hk.blk HJ.out.two.far.2 HJ.out.drew.two.box; have y0 := bz.cell' (i := 0) (v := .slice vb N.length vd) rfl; have yf := bz.frozen 0; clear hp hk bz)
        all_goals
          go_wp2_with fail
          go_roundw
          case rel => exact ⟨n + 1, _, _, _, _, _, _, _, _, _, _, rfl, rfl, by go_num, by omega, J7.out, HA2.out, OK2.out⟩
          case measure => simp [intOf]; omega
    case pos =>
      have hq1 : (n : Int) < L1.length := by omega
      have z0 := HJ.out.one.cell
      obtain ⟨x1, hx⟩ := get_of_lt q1
      have hxm := List.mem_of_getElem? hx
      obtain ⟨rs, hst⟩ := HS1.out x1 hxm
      have hfx := F1.out.each x1 hxm
      have hN : textN (L1.take n) ≤ 20000 := Nat.le_trans (textN_take L1 n) F1.out.all
      have htk : textN (L1.take (n + 1)) = textN (L1.take n) + x1.text.size := by rw [show L1.take (n + 1) = L1.take n ++ [x1] by rw [List.take_add_one, hx]; rfl, textN_snoc]
      obtain ⟨lg1, lo1, lc', e2, _, hcs⟩ := SlAt.stepc (HL1.out.kept HJ.out.one.kept) (by omega)
      cases e2
      obtain ⟨c0, c1, c2, c3, c4, c5, c6, c7, c8⟩ := hcs n x1 hx
      have HD1 := Lib.hid (does_any HJ.out.drew.one.pt HA.out (by omega) hst (hst.len hfx.1) (by omega))
      have ho2 := HA.out.step x1 rs
      rw [← htk] at ho2
      have OK1 := Lib.hid ho2
      obtain ⟨R1, hR⟩ : ∃ R, goOn x1 rs M = R := ⟨_, rfl⟩
      rw [hR] at HD1 OK1
      clear hcs hx hxm hst hfx hN htk ho2 hR
      go_upto_region 13 with fail
      go_region_with (go_at_call 10; refine HD1.out.mono ?_; rintro e w7 ⟨g1, ua1, uc1, rfl, hp, hk⟩; have J7 := Lib.hid (HJ.out.drew.first hp hk); have bz := hk.blk HJ.out.one.far.2 HJ.out.drew.one.box; have y0 := bz.cell' (i := 0) (v := .slice va M.length vc) rfl; have yf := bz.frozen 0; clear hp hk bz)
      all_goals
        obtain ⟨W8, hW8⟩ : ∃ W8, w7.setCell ⟨zc, 0, none⟩ (.slice ua1 R1.length uc1) = W8 := ⟨_, rfl⟩
        rw [hW8] at J7 ⊢
        have J8 := J7
        clear c0 c1 c2 c3 c4 c5 c6 c7 c8 z0 y0 yf hW8 J7 HD1
        by_cases q2 : n < L2.length
        case neg =>
          have hq2 : ¬ (n : Int) < L2.length := by omega
          have et : L2.take (n + 1) = L2.take n := by rw [List.take_of_length_le (by omega), List.take_of_length_le (by omega)]
          have HB2 : Hid (OkN N (textN (L2.take (n + 1)))) := Lib.hid (by rw [et]; exact HB.out)
          clear et
          go_wp2_with fail
          go_roundw
          case rel => exact ⟨n + 1, _, _, _, _, _, _, _, _, _, _, rfl, rfl, by go_num, by omega, J8.out, OK1.out, HB2.out⟩
          case measure => simp [intOf]; omega
        case pos =>
          have hq2 : (n : Int) < L2.length := by omega
          have z1 := J8.out.two.cell
          obtain ⟨x2, hx⟩ := get_of_lt q2
          have hxm := List.mem_of_getElem? hx
          obtain ⟨rs, hst⟩ := HS2.out x2 hxm
          have hfx := F2.out.each x2 hxm
          have hN : textN (L2.take n) ≤ 20000 := Nat.le_trans (textN_take L2 n) F2.out.all
          have htk : textN (L2.take (n + 1)) = textN (L2.take n) + x2.text.size := by rw [show L2.take (n + 1) = L2.take n ++ [x2] by rw [List.take_add_one, hx]; rfl, textN_snoc]
          obtain ⟨lg2, lo2, lc', e2, _, hcs⟩ := SlAt.stepc (HL2.out.kept J8.out.one.kept) (by omega)
          cases e2
          obtain ⟨c0, c1, c2, c3, c4, c5, c6, c7, c8⟩ := hcs n x2 hx
          have HD2 := Lib.hid (does_any J8.out.drew.two.pt HB.out (by omega) hst (hst.len hfx.1) (by omega))
          have ho2 := HB.out.step x2 rs
          rw [← htk] at ho2
          have OK2 := Lib.hid ho2
          obtain ⟨R2, hR⟩ : ∃ R, goOn x2 rs N = R := ⟨_, rfl⟩
          rw [hR] at HD2 OK2
          clear hcs hx hxm hst hfx hN htk ho2 hR
          go_upto_region 17 with fail
          go_region_with (go_at_call 10; refine HD2.out.mono ?_; rintro e w7 ⟨g2, ua2, uc2, rfl, hp, hk⟩; have J7 := Lib.hid (J8.out.drew.second hp hk); have bz := hk.blk J8.out.two.far.2 J8.out.drew.two.box; have y0 := bz.cell' (i := 0) (v := .slice vb N.length vd) rfl; have yf := bz.frozen 0; clear hp hk bz)
          all_goals
            go_wp2_with fail
            go_roundw
            case rel => exact ⟨n + 1, _, _, _, _, _, _, _, _, _, _, rfl, rfl, by go_num, by omega, J7.out, OK1.out, OK2.out⟩
            case measure => simp [intOf]; omega
end Go.Proofs.YtlafodnaifghcaaGreat.Tr
