/- hearsayref11: Delete, Settle, Len, Kept, At, Find. slices.IndexFunc and slices.DeleteFunc of the identifiers that are none, on a row of the call's own. -/
import Derived.Test.YtlafodnaifghcaaGreatH12
import Derived.Test.YtlafodnaifghcaaGreatH13
import Derived.Test.YtlafodnaifghcaaGreatH11
import Derived.Laws.IdiomCopy
import Derived.Shelf.Abstract
namespace Go.Proofs.YtlafodnaifghcaaGreat.Tr
open Go.RowKit Go.Sort Go.Proofs.YtlafodnaifghcaaGreat.St
set_option maxRecDepth 100000 in
set_option maxHeartbeats 4000000 in
theorem rdelete_any {w : World} {v rv : Value} {L : List Nd} {rs : List Run} (h : SlAt nodeE w v L) (hr : SlAt runE w rv rs) (hin : ∀ r ∈ rs, r.In) (hrl : rs.length ≤ 1000000) (hlen : L.length ≤ 900000) (hID : ∀ n ∈ L, 0 ≤ n.id.t ∧ n.id.t ≤ 2147483647) :
    Calls Tryz.prog 33 #[.agg #[v], rv] w fun e w' => (∃ u, e = .returned (.tuple #[.agg #[u], .int .i64 (turnN rs 1 L)]) ∧ w'.ownsRow w.heap.size 45 6 u L.length (nodeE.flat (L.map (turnF rs 1 2)))) ∧ Kept (fun _ => False) w w' := by
  obtain ⟨a, c, rfl, _, _⟩ := h.sl
  have k0 : Kept (fun _ => False) w ((w.alloc (.cells #[.slice a L.length c] 33)).alloc (.cells #[.slice none 0 0] 33)) := ((Kept.refl _ _).alloc _).alloc _
  have b0 := (Blk.new w 33 #[.slice a L.length c]).alloc (.cells #[.slice none 0 0] 33)
  have b1 := Blk.new (w.alloc (.cells #[.slice a L.length c] 33)) 33 #[.slice none 0 0]
  rw [World.size_alloc] at b1
  have TN := Lib.hid (rturned_any (h.kept k0) (hr.kept k0) hin hrl hlen hID 1 2)
  have K0 := Lib.hid k0
  have B1 := Lib.hid b1
  have c0 := b0.cell' (i := 0) (v := .slice a L.length c) rfl
  obtain ⟨ra, rc, rfl, _, _⟩ := hr.sl
  clear h hr k0 b1 b0
  go_enter Tryz.func33, Tryz.ntmps33
  go_wp2_with (go_at_call 74; refine TN.out.mono ?_; rintro e w1 ⟨⟨u, rfl, ho⟩, hk⟩; obtain ⟨ua, uc, rfl⟩ := owns_sl ho; have hb := hk.blk (fun h => h) B1.out; have f0 := hb.frozen 0; have d0 := hb.cell' (i := 0) (v := .slice none 0 0) rfl; have HB := Lib.hid hb; have HO := Lib.hid ho; have K1 := Lib.hid (K0.out.trans hk fun _ _ h => h); have SZ := Lib.hid K0.out.size; have LTB := Lib.hid hb.lt; clear hb ho hk)
  have e0 := (HB.out.set_ 0 (.slice ua L.length uc)).cell' (i := 0) (v := .slice ua L.length uc) (by simp)
  exact bodyPost_ret (v := .tuple #[.agg #[.slice ua L.length uc], .int .i64 (turnN rs 1 L)]) (by simp [results, Tryz.results33, go_sem, e0]) rfl ⟨⟨_, rfl, owns_base9 (owns_keep HO.out (kept_cell w1 (w.heap.size + 1) _) (fun b hb h9 => by have h8 := owns_new HO.out b hb; simp at h8; omega)) SZ.out⟩, K1.out.trans (kept_cell w1 (w.heap.size + 1) _) (fun b hb h9 => by omega)⟩
set_option maxRecDepth 100000 in
set_option maxHeartbeats 4000000 in
theorem rsettle_any {w : World} {v rv : Value} {L : List Nd} {rs : List Run} (h : SlAt nodeE w v L) (hr : SlAt runE w rv rs) (hin : ∀ r ∈ rs, r.In) (hrl : rs.length ≤ 1000000) (hlen : L.length ≤ 900000) (hID : ∀ n ∈ L, 0 ≤ n.id.t ∧ n.id.t ≤ 2147483647) :
    Calls Tryz.prog 34 #[.agg #[v], rv] w fun e w' => (∃ u, e = .returned (.tuple #[.agg #[u], .int .i64 (turnN rs 2 L)]) ∧ w'.ownsRow w.heap.size 45 6 u L.length (nodeE.flat (L.map (turnF rs 2 3)))) ∧ Kept (fun _ => False) w w' := by
  obtain ⟨a, c, rfl, _, _⟩ := h.sl
  have k0 : Kept (fun _ => False) w ((w.alloc (.cells #[.slice a L.length c] 33)).alloc (.cells #[.slice none 0 0] 33)) := ((Kept.refl _ _).alloc _).alloc _
  have b0 := (Blk.new w 33 #[.slice a L.length c]).alloc (.cells #[.slice none 0 0] 33)
  have b1 := Blk.new (w.alloc (.cells #[.slice a L.length c] 33)) 33 #[.slice none 0 0]
  rw [World.size_alloc] at b1
  have TN := Lib.hid (rturned_any (h.kept k0) (hr.kept k0) hin hrl hlen hID 2 3)
  have K0 := Lib.hid k0
  have B1 := Lib.hid b1
  have c0 := b0.cell' (i := 0) (v := .slice a L.length c) rfl
  obtain ⟨ra, rc, rfl, _, _⟩ := hr.sl
  clear h hr k0 b1 b0
  go_enter Tryz.func34, Tryz.ntmps34
  go_wp2_with (go_at_call 74; refine TN.out.mono ?_; rintro e w1 ⟨⟨u, rfl, ho⟩, hk⟩; obtain ⟨ua, uc, rfl⟩ := owns_sl ho; have hb := hk.blk (fun h => h) B1.out; have f0 := hb.frozen 0; have d0 := hb.cell' (i := 0) (v := .slice none 0 0) rfl; have HB := Lib.hid hb; have HO := Lib.hid ho; have K1 := Lib.hid (K0.out.trans hk fun _ _ h => h); have SZ := Lib.hid K0.out.size; have LTB := Lib.hid hb.lt; clear hb ho hk)
  have e0 := (HB.out.set_ 0 (.slice ua L.length uc)).cell' (i := 0) (v := .slice ua L.length uc) (by simp)
  exact bodyPost_ret (v := .tuple #[.agg #[.slice ua L.length uc], .int .i64 (turnN rs 2 L)]) (by simp [results, Tryz.results34, go_sem, e0]) rfl ⟨⟨_, rfl, owns_base9 (owns_keep HO.out (kept_cell w1 (w.heap.size + 1) _) (fun b hb h9 => by have h8 := owns_new HO.out b hb; simp at h8; omega)) SZ.out⟩, K1.out.trans (kept_cell w1 (w.heap.size + 1) _) (fun b hb h9 => by omega)⟩
set_option maxRecDepth 100000 in
theorem rlen_any {w : World} {v : Value} {L : List Nd} (h : SlAt nodeE w v L) (hlen : L.length ≤ 900000) :
    Calls Tryz.prog 18 #[.agg #[v]] w fun e w' => e = .returned (.int .i64 (shL L).length) ∧ Kept (fun _ => False) w w' := by
  obtain ⟨a, c, rfl, _, _⟩ := h.sl
  have k0 : Kept (fun _ => False) w (w.alloc (.cells #[.slice a L.length c] 33)) := (Kept.refl _ _).alloc _
  have HS := Lib.hid (rshown_any (h.kept k0) hlen)
  have K0 := Lib.hid k0
  clear h k0
  go_enter Tryz.func18, Tryz.ntmps18
  go_wp2_with (go_at_call 54; refine HS.out.mono ?_; rintro e w1 ⟨⟨u, rfl, ho⟩, hk⟩; obtain ⟨ua, uc, rfl⟩ := owns_sl ho)
  go_ret
  exact ⟨rfl, K0.out.trans hk fun _ _ h => h⟩
theorem rkept_any {w : World} {v : Value} {L : List Nd} (h : SlAt nodeE w v L) :
    Calls Tryz.prog 42 #[.agg #[v]] w fun e w' => e = .returned (.int .i64 L.length) ∧ Kept (fun _ => False) w w' := by
  obtain ⟨a, c, rfl, _, _⟩ := h.sl
  clear h
  go_enter Tryz.func42, Tryz.ntmps42
  go_wp2
  go_ret
  exact ⟨rfl, (Kept.refl _ _).alloc _⟩
set_option maxRecDepth 100000 in
set_option maxHeartbeats 4000000 in
theorem rlook_any {w : World} {v : Value} {L : List Nd} (h : SlAt nodeE w v L) (hlen : L.length ≤ 900000) (ix : Int) :
    Calls Tryz.prog 39 #[.agg #[v], .int .i64 ix] w fun e w' => e = .returned (.tuple #[.agg #[.int .i64 (atP L ix).1.t, .int .i64 (atP L ix).1.s], .int .i64 (atP L ix).2]) ∧ Kept (fun _ => False) w w' := by
  obtain ⟨a, c, rfl, _, _⟩ := h.sl
  have k0 : Kept (fun _ => False) w ((w.alloc (.cells #[.slice a L.length c] 33)).alloc (.cells #[.int .i64 0, .int .i64 0] 37)) := ((Kept.refl _ _).alloc _).alloc _
  have b0 := (Blk.new w 33 #[.slice a L.length c]).alloc (.cells #[.int .i64 0, .int .i64 0] 37)
  have b1 := Blk.new (w.alloc (.cells #[.slice a L.length c] 33)) 37 #[.int .i64 0, .int .i64 0]
  rw [World.size_alloc] at b1
  have HS := Lib.hid (rshown_any (h.kept k0) hlen)
  have K0 := Lib.hid k0
  have B1 := Lib.hid b1
  have c0 := b0.cell' (i := 0) (v := .slice a L.length c) rfl
  clear h k0 b1 b0
  go_enter Tryz.func39, Tryz.ntmps39
  go_upto_region 2 with (go_at_call 54; refine HS.out.mono ?_; rintro e w1 ⟨⟨u, rfl, ho⟩, hk⟩; obtain ⟨ua, uc, rfl⟩ := owns_sl ho)
  have hb := hk.blk (fun h => h) B1.out
  have f0 := hb.frozen 0
  have f1 := hb.frozen 1
  have d0 := hb.cell' (i := 0) (v := .int .i64 0) rfl
  have d1 := hb.cell' (i := 1) (v := .int .i64 0) rfl
  have HB := Lib.hid hb
  have hsl := owns_slAt ho
  have HSL := Lib.hid hsl
  have K1 := Lib.hid (K0.out.trans hk fun _ _ h => h)
  obtain ⟨y, hy⟩ : ∃ y, w.heap.size + 1 = y := ⟨_, rfl⟩
  have HY : Hid (w.heap.size ≤ y) := Lib.hid (by omega)
  rw [hy] at f0 f1 d0 d1 HB ⊢
  clear hb hsl ho hk HS B1 hy c0
  by_cases hi : 0 ≤ ix ∧ ix < (shL L).length
  case neg =>
    have AP : Hid (atP L ix = (ID.zero, 3)) := Lib.hid (if_neg hi)
    have hq : ix < 0 ∨ (¬ ix < 0 ∧ ((shL L).length : Int) ≤ ix) := by omega
    rcases hq with q | ⟨q, q2⟩
    all_goals
      clear hi
      go_wp2_with fail
      have e0 := ((HB.out.set_ 0 (.int .i64 0)).set_ 1 (.int .i64 0)).cell' (i := 0) (v := .int .i64 0) (by simp)
      have e1 := ((HB.out.set_ 0 (.int .i64 0)).set_ 1 (.int .i64 0)).cell' (i := 1) (v := .int .i64 0) (by simp)
      exact bodyPost_ret (v := .tuple #[.agg #[.int .i64 0, .int .i64 0], .int .i64 3]) (by simp [results, Tryz.results39, go_sem, e0, e1]) rfl ⟨by rw [AP.out]; rfl, K1.out.trans ((((Kept.refl (fun b => b = y) w1).setCell (p := ⟨y, 0, none⟩) (fun _ => rfl) _)).setCell (p := ⟨y, 1, none⟩) (fun _ => rfl) _) (fun b hb h9 => by have := HY.out; omega)⟩
  case pos =>
    obtain ⟨hi0, hi1⟩ := hi
    have AP : Hid (atP L ix = ((nth (shL L) ix.toNat).id, 0)) := Lib.hid (if_pos ⟨hi0, hi1⟩)
    obtain ⟨k, rfl⟩ : ∃ k : Nat, ix = k := ⟨ix.toNat, by omega⟩
    have hkl : k < (shL L).length := by omega
    obtain ⟨x, hx⟩ := get_of_lt hkl
    have NX : Hid (nth (shL L) (k : Int).toNat = x) := Lib.hid (by rw [Int.toNat_natCast]; exact nth_some hx)
    obtain ⟨g, o, c', e2, _, hc⟩ := SlAt.id HSL.out (by rw [List.length_map]; omega)
    rw [List.length_map] at e2
    cases e2
    have hxi : (ids (shL L))[k]? = some x.id := by rw [List.getElem?_map, hx]; rfl
    obtain ⟨r0, r1⟩ := hc k x.id hxi
    have q : ¬ (k : Int) < 0 := by omega
    clear hc hx hxi hkl
    go_wp2_with fail
    have e0 := ((HB.out.set_ 0 (.int .i64 x.id.t)).set_ 1 (.int .i64 x.id.s)).cell' (i := 0) (v := .int .i64 x.id.t) (by simp)
    have e1 := ((HB.out.set_ 0 (.int .i64 x.id.t)).set_ 1 (.int .i64 x.id.s)).cell' (i := 1) (v := .int .i64 x.id.s) (by simp)
    exact bodyPost_ret (v := .tuple #[.agg #[.int .i64 x.id.t, .int .i64 x.id.s], .int .i64 0]) (by simp [results, Tryz.results39, go_sem, e0, e1]) rfl ⟨by rw [AP.out, NX.out], K1.out.trans ((((Kept.refl (fun b => b = y) w1).setCell (p := ⟨y, 0, none⟩) (fun _ => rfl) _)).setCell (p := ⟨y, 1, none⟩) (fun _ => rfl) _) (fun b hb h9 => by have := HY.out; omega)⟩
set_option maxRecDepth 100000 in
set_option maxHeartbeats 4000000 in
theorem rfind_any {w : World} {v : Value} {L : List Nd} (h : SlAt nodeE w v L) (hlen : L.length ≤ 900000) (i : ID) :
    Calls Tryz.prog 38 #[.agg #[v], idV i] w fun e w' => e = .returned (.tuple #[.int .i64 (findP L i).1, .int .i64 (findP L i).2]) ∧ Kept (fun _ => False) w w' := by
  obtain ⟨it, is⟩ := i
  show Calls _ _ #[_, .agg #[.int .i64 it, .int .i64 is]] _ _
  obtain ⟨a, c, rfl, _, _⟩ := h.sl
  have hk0 : Kept (fun _ => False) w ((w.alloc (.cells #[.slice a L.length c] 33)).alloc (.cells #[.int .i64 it, .int .i64 is] 37)) := ((Kept.refl _ _).alloc _).alloc _
  have b0 := (Blk.new w 33 #[.slice a L.length c]).alloc (.cells #[.int .i64 it, .int .i64 is] 37)
  have b1 := Blk.new (w.alloc (.cells #[.slice a L.length c] 33)) 37 #[.int .i64 it, .int .i64 is]
  rw [World.size_alloc] at b1
  have HL := Lib.hid (h.kept hk0)
  have K0 := Lib.hid hk0
  have c0 := b0.cell' (i := 0) (v := .slice a L.length c) rfl
  have c1 := b1.cell' (i := 0) (v := .int .i64 it) rfl
  have c2 := b1.cell' (i := 1) (v := .int .i64 is) rfl
  clear h b0 b1 hk0
  go_enter Tryz.func38, Tryz.ntmps38
  go_upto_region 1 with fail
  obtain ⟨W0, hW0⟩ : ∃ W0, ((w.alloc (.cells #[.slice a L.length c] 33)).alloc (.cells #[.int .i64 it, .int .i64 is] 37)) = W0 := ⟨_, rfl⟩
  rw [hW0] at HL K0 c0 c1 c2 ⊢
  clear hW0
  go_wp2_with fail
  go_loopw [6, 7] (fun nv kv wr => ∃ n q : Nat, kv = .int .i64 n ∧ nv = .int .i64 (shownN (L.take n)) ∧ n ≤ L.length ∧ (∀ m ∈ L.take n, m.id ≠ ⟨it, is⟩) ∧ wr = W0.drewN q) (fun _ kv _ => L.length - (intOf kv).toNat)
  case atStart => exact ⟨0, 0, rfl, by simp [shownN], Nat.zero_le _, fun m hm => by simp at hm, rfl⟩
  case round =>
    obtain ⟨n, q, rfl, rfl, hn, hno, rfl⟩ := hrel
    have NO := Lib.hid hno
    clear hno
    have hn0 : (0 : Int) ≤ n := by omega
    by_cases hlt : n < L.length
    case neg =>
      have hnl : ¬ (n : Int) < L.length := by omega
      have AN := Lib.hid (findP_no (L := L) (x := ⟨it, is⟩) (by have h9 := NO.out; rw [List.take_of_length_le (by omega)] at h9; exact h9))
      go_wp2_with fail
      refine bodyPost_ret (results_tmp2 rfl _ _ _) rfl ?_
      exact ⟨by rw [AN.out]; rfl, K0.out.drewN _⟩
    case pos =>
      have hnl : (n : Int) < L.length := by omega
      obtain ⟨x, hx⟩ := get_of_lt hlt
      obtain ⟨g, o, c', e1, _, h1⟩ := SlAt.node HL.out (by omega)
      cases e1
      obtain ⟨r0, r1, r2, r3, r4, r5⟩ := h1 n x hx
      have heq := eq_id x.id ⟨it, is⟩
      have e1 : IntKind.i64.wrap ((n : Int) + 1) = (n : Int) + 1 := IntWalk.i64_in _ (by omega)
      have HX := Lib.hid hx
      have hsl := shown_le (L.take n)
      have htl := List.length_take_le n L
      have SN := Lib.hid (show shownN (L.take (n + 1)) = shownN (L.take n) + if x.st = 1 then 1 else 0 by rw [List.take_add_one, hx]; exact shown_snoc _ _)
      simp only at heq
      clear hx h1
      by_cases he : x.id = ⟨it, is⟩
      · rw [decide_eq_true he] at heq
        have AN := Lib.hid (findP_at HX.out he NO.out)
        clear he
        go_wp2_with fail
        go_quiet (fail)
        go_wp2_with fail
        go_quiet (fail)
        go_wp2_with fail
        refine bodyPost_ret (results_tmp2 rfl _ _ _) rfl ?_
        exact ⟨by rw [AN.out]; rfl, by first | exact ((K0.out.drewN _).drewN _).drewN _ | exact (K0.out.drewN _).drewN _ | exact K0.out.drewN _⟩
      · rw [decide_eq_false he] at heq
        have HE := Lib.hid he
        obtain ⟨sn, hsn⟩ : ∃ sn, shownN (L.take n) = sn := ⟨_, rfl⟩
        rw [hsn] at SN hsl ⊢
        have e2 : IntKind.i64.wrap (sn + 1) = sn + 1 := IntWalk.i64_in _ (by omega)
        have NO2 : Hid (∀ m ∈ L.take (n + 1), m.id ≠ ⟨it, is⟩) := Lib.hid (fun m hm => by
          rw [List.take_add_one, HX.out] at hm
          rcases List.mem_append.1 hm with hm | hm
          · exact NO.out m hm
          · have h9 : m = x := by simpa using hm
            rw [h9]
            exact HE.out)
        clear he hsn
        by_cases hs : x.st = 1
        · have q6 : (x.st == 1) = true := by simpa using hs
          have SN1 : Hid (shownN (L.take (n + 1)) = sn + 1) := Lib.hid (by rw [SN.out, if_pos hs])
          rw [hs] at r5
          clear q6 hs
          go_wp2_with fail
          go_quiet (fail)
          go_wp2_with fail
          go_roundw
          case rel => exact ⟨n + 1, _, by go_num, by rw [SN1.out], by omega, NO2.out, rfl⟩
          case measure => simp [intOf]; omega
        · have q6 : (x.st == 1) = false := by simpa using hs
          have SN1 : Hid (shownN (L.take (n + 1)) = sn) := Lib.hid (by rw [SN.out, if_neg hs, Int.add_zero])
          clear hs
          go_wp2_with fail
          go_quiet (fail)
          go_wp2_with fail
          go_roundw
          case rel => exact ⟨n + 1, _, by go_num, by rw [SN1.out], by omega, NO2.out, rfl⟩
          case measure => simp [intOf]; omega
end Go.Proofs.YtlafodnaifghcaaGreat.Tr
namespace Go.Proofs.YtlafodnaifghcaaGreat
open Go.RowKit
section
variable {α : Type} {E : Enc α} {w : World} {t : TypeId} {g cap : Nat} {D : List α}
theorem Blk.setCells : ∀ (vs : List Value) (o : Nat) {w : World} {cs : Array Value}, Blk w g t cs → ∃ cs', Blk (w.setCells g o vs) g t cs' ∧ cs'.size = cs.size ∧ ∀ m, m < o → cs'[m]? = cs[m]?
  | [], o, w, cs, h => ⟨cs, h, rfl, fun _ _ => rfl⟩
  | v :: r, o, w, cs, h => by
    obtain ⟨cs', h1, h2, h3⟩ := Blk.setCells r (o + 1) (h.set_ o v)
    refine ⟨cs', h1, by simpa using h2, fun m hm => ?_⟩
    rw [h3 m (by omega), Array.getElem?_setIfInBounds_ne (by omega)]
theorem Kept.setCells (g : Nat) : ∀ (vs : List Value) (o : Nat) {w0 w : World}, Kept (· = g) w0 w → Kept (· = g) w0 (w.setCells g o vs)
  | [], _, _, _, h => h
  | v :: r, o, _, _, h => Kept.setCells g r (o + 1) (h.setCell (p := ⟨g, o, none⟩) (fun _ => rfl) v)
theorem run_clear_own {P : Program} (h : OwnAt E w t g cap D) {T e : TypeId} (ty : TypeId) (ht : P.underlying T = some (.slice e)) {z : Value} (hv : ∀ w, (zeroValue e).run P w = .ok z w) (hz : z.cells.size = E.k) (hz1 : ∀ u ∈ z.cells.toList, u.oneCell' = true)
    {i n c : Nat} (hn : i + n ≤ cap) : ∃ w', (Builtin.clear_ #[T] ty #[.slice (some ⟨g, i * E.k, none⟩) n c]).run P w = .ok (.tuple #[]) w' ∧ OwnAt E w' t g cap (D.take i) ∧ Kept (· = g) w w' := by
  rcases n with _ | m
  · refine ⟨w, ?_, h.take i, Kept.refl _ _⟩
    simp [Builtin.clear_, run_underlying ht]
  · have hsz : (Builtin.zeroCells z.cells (m + 1)).toList.length = (m + 1) * E.k := by simp [Builtin.zeroCells, hz]
    have hone : ∀ u ∈ (Builtin.zeroCells z.cells (m + 1)).toList, u.oneCell' = true := by
      intro u hu
      simp only [Builtin.zeroCells, Array.toList_map, List.mem_map] at hu
      obtain ⟨k, _, rfl⟩ := hu
      refine hz1 _ ?_
      have hk : k % z.cells.size < z.cells.size := Nat.mod_lt _ (by rw [hz]; exact E.pos)
      rw [getElem!_pos z.cells _ hk]
      exact Array.getElem_mem_toList hk
    have hO := h
    obtain ⟨cs, h1, h2, h3, h4, h5⟩ := h
    have hin : ∀ j, j < (m + 1) * E.k → i * E.k + j < cs.size := fun j hj => by
      have := Nat.mul_le_mul_right E.k hn
      rw [Nat.add_mul] at this
      omega
    have hst := run_storeCells_cells (P := P) g (i * E.k) (Builtin.zeroCells z.cells (m + 1)).toList 0 w (fun j hj => by rw [Nat.add_zero, h1.cell]; simp [hin j (by omega)]) (fun j hj => h1.frozen _) hone
    obtain ⟨cs', g1, g2, g3⟩ := Blk.setCells (Builtin.zeroCells z.cells (m + 1)).toList (i * E.k) h1
    refine ⟨w.setCells g (i * E.k) (Builtin.zeroCells z.cells (m + 1)).toList, ?_, ⟨cs', g1, by omega, by rw [List.length_take]; omega, h4, ?_⟩, Kept.setCells g _ _ (Kept.refl _ _)⟩
    · simp only [Nat.add_zero] at hst
      simp [Builtin.clear_, run_underlying ht, hv, hst]
    · intro a x hx j u hu
      rw [List.getElem?_take] at hx
      split at hx
      · rename_i ha
        have hj : j < E.k := by rw [← E.len x]; exact (List.getElem?_eq_some_iff.1 hu).1
        have := Nat.mul_le_mul_right E.k (show a + 1 ≤ i by omega)
        rw [Nat.add_mul] at this
        rw [g3 _ (by omega)]
        exact h5 a x hx j u hu
      · cases hx
end
namespace St
theorem OwnAt.id {w : World} {t : TypeId} {g cap : Nat} {D : List ID} (h : OwnAt idE w t g cap D) {i : Nat} {x : ID} (hx : D[i]? = some x) :
    w.cell? ⟨g, i * 2, none⟩ = some (.int .i64 x.t) ∧ w.cell? ⟨g, i * 2 + 1, none⟩ = some (.int .i64 x.s) := ⟨h.cell (j := 0) hx rfl, h.cell (j := 1) hx rfl⟩
/-- the place of the first that is none -/
def FirstBad (D : List ID) (i : Int) : Prop := (i = -1 ∧ ∀ x ∈ D, isB x = true) ∨ ∃ k : Nat, i = k ∧ k < D.length ∧ (∀ (j : Nat) x, j < k → D[j]? = some x → isB x = true) ∧ ∀ x, D[k]? = some x → isB x = false

set_option maxHeartbeats 1000000 in
theorem index_id {w : World} {t : TypeId} {g cap : Nat} {D : List ID} (h : OwnAt idE w t g cap D) (hb : D.length ≤ 1000000000) :
    Calls Tryz.prog 110 #[.slice (some ⟨g, 0, none⟩) D.length cap, .func (.func 91) #[] #[]] w fun e w' => ∃ i, e = .returned (.int .i64 i) ∧ FirstBad D i ∧ Grew w w' := by
  have eg : ∀ args w, (callFunc 91 args).run Tryz.prog w = .ok (.enter 91 args) w := enters_of Tryz.func91 (by kernel_rfl) rfl
  go_enter Tryz.func110, Tryz.ntmps110
  go_wp2_with fail
  go_loopw [8] (fun i wr => ∃ n : Nat, i = .int .i64 n ∧ n ≤ D.length ∧ (∀ (j : Nat) x, j < n → D[j]? = some x → isB x = true) ∧ Grew w wr) (fun i _ => D.length - (intOf i).toNat)
  case atStart => exact ⟨0, rfl, Nat.zero_le _, fun _ _ h => absurd h (Nat.not_lt_zero _), Grew.refl w⟩
  case round =>
    obtain ⟨n, rfl, hn, hall, hg⟩ := hrel
    have A := Lib.hid hall
    clear hall
    by_cases hlt : n < D.length
    · obtain ⟨x, hx⟩ := get_of_lt hlt
      obtain ⟨c0, c1⟩ := OwnAt.id (h.keep hg.kept (fun h => h)) hx
      have X := Lib.hid hx
      have hn0 : (0 : Int) ≤ n := by omega
      have hnl : (n : Int) < D.length := by omega
      clear hx
      cases hbx : isB x
      · have hc := is1_any x wr
        rw [hbx] at hc
        have B := Lib.hid hbx
        clear hbx
        go_wp2_with fail
        refine hc.mono ?_
        rintro e w2 ⟨rfl, hg2⟩
        go_wp2_with fail
        go_ret
        exact ⟨n, rfl, .inr ⟨n, rfl, hlt, A.out, fun y hy => by rw [X.out] at hy; cases hy; exact B.out⟩, hg.trans hg2⟩
      · have hc := is1_any x wr
        rw [hbx] at hc
        have B := Lib.hid hbx
        clear hbx
        go_wp2_with fail
        refine hc.mono ?_
        rintro e w2 ⟨rfl, hg2⟩
        go_wp2_with fail
        go_roundw
        case rel => exact ⟨n + 1, by go_num, by omega, fun j y hj hy => by
          rcases Nat.lt_succ_iff_lt_or_eq.1 hj with hj | rfl
          · exact A.out j y hj hy
          · rw [X.out] at hy; cases hy; exact B.out, hg.trans hg2⟩
        case measure => simp [intOf]; omega
    · have hge : D.length ≤ n := by omega
      go_wp2_with fail
      go_ret
      exact ⟨-1, rfl, .inl ⟨rfl, fun x hx => by
        obtain ⟨j, hj⟩ := List.getElem?_of_mem hx
        exact A.out j x (Nat.lt_of_lt_of_le (List.getElem?_eq_some_iff.1 hj).1 hge) hj⟩, hg⟩

theorem zero_id : ∀ w, (zeroValue 37).run Tryz.prog w = .ok (.agg #[.int .i64 0, .int .i64 0]) w := fun _ => by kernel_rfl
/-- what DeleteFunc keeps: i written, j looked at -/
structure DelInv (D : List ID) (i j : Nat) (X : List ID) : Prop where
  len : X.length = D.length
  low : X.take i = (D.take j).filter isB
  il : i = ((D.take j).filter isB).length
  lt : i < j
  high : ∀ m, j ≤ m → X[m]? = D[m]?
theorem DelInv.skip {D X : List ID} {i j : Nat} {x : ID} (h : DelInv D i j X) (hx : D[j]? = some x) (hb : isB x = false) : DelInv D i (j + 1) X := by
  have e : (D.take (j + 1)).filter isB = (D.take j).filter isB := by rw [List.take_add_one, hx, List.filter_append]; simp [hb]
  exact ⟨h.len, by rw [e]; exact h.low, by rw [e]; exact h.il, by have := h.lt; omega, fun m hm => h.high m (by omega)⟩
theorem DelInv.keep {D X : List ID} {i j : Nat} {x : ID} (h : DelInv D i j X) (hx : D[j]? = some x) (hb : isB x = true) : DelInv D (i + 1) (j + 1) (X.set i x) := by
  have hj : j < D.length := (List.getElem?_eq_some_iff.1 hx).1
  have hl := h.len
  have hij := h.lt
  have e : (D.take (j + 1)).filter isB = (D.take j).filter isB ++ [x] := by rw [List.take_add_one, hx, List.filter_append]; simp [hb]
  refine ⟨by simpa using hl, ?_, by rw [e, List.length_append, ← h.il]; rfl, by omega, fun m hm => ?_⟩
  · rw [e, ← h.low, List.take_add_one, List.take_set_of_le (Nat.le_refl _), List.getElem?_set_self (by omega)]
    rfl
  · rw [List.getElem?_set_ne (by omega)]
    exact h.high m (by omega)
theorem DelInv.start {D : List ID} {k : Nat} (h1 : ∀ (j : Nat) x, j < k → D[j]? = some x → isB x = true) (h2 : ∀ x, D[k]? = some x → isB x = false) (hk : k < D.length) : DelInv D k (k + 1) D := by
  obtain ⟨x, hx⟩ := get_of_lt hk
  have e0 : (D.take k).filter isB = D.take k := List.filter_eq_self.2 fun y hy => by
    obtain ⟨j, hj⟩ := List.getElem?_of_mem hy
    rw [List.getElem?_take] at hj
    split at hj
    · rename_i hjk; exact h1 j y hjk hj
    · cases hj
  have e : (D.take (k + 1)).filter isB = D.take k := by rw [List.take_add_one, hx, List.filter_append, e0]; simp [h2 x hx]
  exact ⟨rfl, e.symm, by rw [e, List.length_take]; omega, by omega, fun _ _ => rfl⟩
theorem DelInv.done {D X : List ID} {i : Nat} (h : DelInv D i D.length X) : X.take i = D.filter isB ∧ i = (D.filter isB).length := by
  have h1 := h.low
  have h2 := h.il
  rw [List.take_length] at h1 h2
  exact ⟨h1, h2⟩

set_option maxRecDepth 100000 in
set_option maxHeartbeats 1000000 in
theorem delete_id {w : World} {t : TypeId} {g cap : Nat} {D : List ID} (h : OwnAt idE w t g cap D) (hb : D.length ≤ 1000000000) :
    Calls Tryz.prog 89 #[.slice (some ⟨g, 0, none⟩) D.length cap, .func (.func 91) #[] #[]] w fun e w' => e = .returned (.slice (some ⟨g, 0, none⟩) (D.filter isB).length cap) ∧ OwnAt idE w' t g cap (D.filter isB) ∧ Kept (· = g) w w' := by
  have eg : ∀ args w, (callFunc 91 args).run Tryz.prog w = .ok (.enter 91 args) w := enters_of Tryz.func91 (by kernel_rfl) rfl
  have hle := h.le
  go_enter Tryz.func89, Tryz.ntmps89
  go_wp2_with fail
  refine (index_id h hb).mono ?_
  rintro e w1 ⟨i, rfl, hf, hg1⟩
  rcases hf with ⟨rfl, hall⟩ | ⟨k, rfl, hk, h1, h2⟩
  · have e0 : D.filter isB = D := List.filter_eq_self.2 fun y hy => hall y hy
    have E := Lib.hid e0
    clear hall e0
    go_wp2_with fail
    go_ret
    rw [E.out]
    exact ⟨rfl, h.keep hg1.kept (fun h => h), hg1.kept.mono (fun _ _ h => h.elim)⟩
  · have hne : ((k : Int) == -1) = false := beq_eq_false_iff_ne.2 (by omega)
    have I0 := Lib.hid (DelInv.start h1 h2 hk)
    clear h1 h2
    have hk63 : (k : Int) + 1 ≤ 9223372036854775807 := by omega
    go_wp2_with fail
    go_loopw [5, 6] (fun iv jv wr => ∃ (i j : Nat) (X : List ID), iv = .int .i64 i ∧ jv = .int .i64 j ∧ j ≤ D.length ∧ DelInv D i j X ∧ OwnAt idE wr t g cap X ∧ Kept (· = g) w wr) (fun _ jv _ => D.length - (intOf jv).toNat)
    case atStart => exact ⟨k, k + 1, D, rfl, by go_num, by omega, I0.out, h.keep hg1.kept (fun h => h), hg1.kept.mono (fun _ _ h => h.elim)⟩
    case round =>
      obtain ⟨i, j, X, rfl, rfl, hj, hI, hO, hkp⟩ := hrel
      have hij := hI.lt
      have hXl := hI.len
      have gne : g ≠ wr.heap.size := Nat.ne_of_lt hO.lt
      by_cases hlt : j < D.length
      · obtain ⟨x, hx⟩ := get_of_lt hlt
        obtain ⟨c0, c1⟩ := OwnAt.id hO ((hI.high j (Nat.le_refl _)).trans hx)
        obtain ⟨y, hy⟩ := get_of_lt (show i < X.length by omega)
        have hij2 : (0 : Int) ≤ i := by omega
        have hj0 : (0 : Int) ≤ j := by omega
        have hjl : (j : Int) < D.length := by omega
        have hil : (i : Int) < D.length := by omega
        have X0 := Lib.hid hx
        have Y0 := Lib.hid hy
        have XL := Lib.hid hXl
        have II := Lib.hid hI
        have hb1 := Blk.new wr 37 #[.int .i64 x.t, .int .i64 x.s]
        have hO1 := hO.keep (Kept.alloc (Kept.refl (fun _ => False) wr) (.cells #[.int .i64 x.t, .int .i64 x.s] 37)) (fun h => h)
        have hc := is1_any x (wr.alloc (.cells #[.int .i64 x.t, .int .i64 x.s] 37))
        clear hx hy hXl hI
        cases hbx : isB x
        · rw [hbx] at hc
          have B := Lib.hid hbx
          clear hbx hO1 hb1
          go_wp2_with fail
          refine hc.mono ?_
          rintro e w2 ⟨rfl, hg2⟩
          go_wp2_with fail
          go_roundw
          case rel => exact ⟨i, j + 1, X, rfl, by go_num, by omega, II.out.skip X0.out B.out, hO.keep ((Kept.alloc (Kept.refl (fun _ => False) wr) _).trans hg2.kept (fun _ _ h => h)) (fun h => h), (hkp.alloc _).trans hg2.kept (fun _ _ h => h.elim)⟩
          case measure => simp [intOf]; omega
        · rw [hbx] at hc
          have B := Lib.hid hbx
          have HB1 := Lib.hid hb1
          have HO1 := Lib.hid hO1
          clear hbx hO1 hb1
          go_wp2_with fail
          refine hc.mono ?_
          rintro e w2 ⟨rfl, hg2⟩
          have hb2 := hg2.box HB1.out
          have hO2 := HO1.out.keep hg2.kept (fun h => h)
          obtain ⟨a0, a1⟩ := OwnAt.id hO2 Y0.out
          have d0 : _ = some (Value.int .i64 x.t) := hb2.cell' (i := 0) rfl
          have d1 : _ = some (Value.int .i64 x.s) := hb2.cell' (i := 1) rfl
          have f0 := hO2.frozen (i * 2)
          have f1 := hO2.frozen (i * 2 + 1)
          have HO2 := Lib.hid hO2
          clear hb2 hO2
          go_wp2_with fail
          go_roundw
          case rel => exact ⟨i + 1, j + 1, X.set i x, by go_num, by go_num, by omega, II.out.keep X0.out B.out, OwnAt.set2 HO2.out (by have := XL.out; omega) rfl rfl, (((hkp.alloc _).trans hg2.kept (fun _ _ h => h.elim)).setCell (fun _ => rfl) _).setCell (fun _ => rfl) _⟩
          case measure => simp [intOf]; omega
      · obtain rfl : j = D.length := by omega
        obtain ⟨e1, e2⟩ := hI.done
        obtain ⟨w3, hcl, hO3, hk3⟩ := run_clear_own (P := Tryz.prog) hO 0 Tryz.underlying98 zero_id rfl (fun u hu => by rcases (show u = .int .i64 0 by simpa [Value.cells] using hu) with rfl; rfl) (i := i) (n := D.length - i) (c := cap - i) (by omega)
        have hcl2 : (Builtin.clear_ #[98] 0 #[.slice (some ⟨g, i * 2, none⟩) (D.length - i) (cap - i)]).run Tryz.prog wr = .ok (.tuple #[]) w3 := hcl
        have hij2 : (0 : Int) ≤ i := by omega
        have hil : (i : Int) < D.length := by omega
        have hic : i < cap := by omega
        rw [e1] at hO3
        have E2 := Lib.hid e2
        have O3 := Lib.hid hO3
        have K3 := Lib.hid (hkp.trans hk3 (fun _ _ h => h))
        have XL := Lib.hid hXl
        clear e1 e2 hI hO3 hk3 hkp hcl hO hlt hXl
        go_wp2_with fail
        go_ret
        exact ⟨by rw [← E2.out]; rfl, O3.out, K3.out⟩
end St
end Go.Proofs.YtlafodnaifghcaaGreat
