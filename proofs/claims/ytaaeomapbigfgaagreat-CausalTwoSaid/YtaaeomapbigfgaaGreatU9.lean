/- (*causal.Queue).Offer. -/
import Derived.Test.YtaaeomapbigfgaaGreatU7
import Derived.Test.YtaaeomapbigfgaaGreatU8
namespace Go.Proofs.YtaaeomapbigfgaaGreat
open Go.RowKit Go.Proofs.YtaaeomapbigfgaaGreat.St
open Go.Sort (grow)
theorem add_can {V D : List Dot} {d : Dot} (hd : d.Ok) (h : Ent.can V d D) : whyAdd V d = 0 := by
  unfold whyAdd
  unfold Dot.Ok at hd
  rw [if_neg (fun h => by rcases h with h | h; exact h ⟨hd.1, hd.2.1⟩; omega), if_neg (by omega), if_neg (fun hn => hn h.1)]
def OfferIs (hold : Int) (s : QS) (c : Int) (e : Ent) (a : Int) (s' : QS) : Prop :=
  (c ≠ 0 ∧ a = 0 ∧ s' = s) ∨ (c = 0 ∧ (hasV s.V e.v.dot ∨ hasDot s.W e.v.dot = true) ∧ a = 3 ∧ s' = s) ∨
  (c = 0 ∧ ¬ (hasV s.V e.v.dot ∨ hasDot s.W e.v.dot = true) ∧ Ent.can s.V e.v.dot e.D ∧ a = 1 ∧ s' = drain s.W.length ⟨addV s.V e.v.dot, s.W, s.O ++ [e]⟩) ∨
  (c = 0 ∧ ¬ (hasV s.V e.v.dot ∨ hasDot s.W e.v.dot = true) ∧ ¬ Ent.can s.V e.v.dot e.D ∧ ((s.W.length : Int) + 1 ≤ hold) ∧ a = 2 ∧ s' = ⟨s.V, s.W ++ [e], s.O⟩) ∨
  (c = 0 ∧ ¬ (hasV s.V e.v.dot ∨ hasDot s.W e.v.dot = true) ∧ ¬ Ent.can s.V e.v.dot e.D ∧ hold < (s.W.length : Int) + 1 ∧ ∃ f, (s.W ++ [e])[grI (s.W ++ [e]) (s.W.length + 1)]? = some f ∧ s' = ⟨s.V, (s.W ++ [e]).eraseIdx (grI (s.W ++ [e]) (s.W.length + 1)), s.O⟩ ∧ a = if f.v.dot = e.v.dot then 4 else 2)
theorem QF.low {w w' : World} {g : Nat} {F : Nat → Prop} (hk : Kept (QF w g F) w w') {b : Nat} (hb : b < w.heap.size) (h : QF w' g (fun b => F b ∨ w.heap.size ≤ b) b) : QF w g F b := by
  rcases h with h | ⟨h, cs, hc⟩
  · exact .inl h
  · have hF2 : F b := h.elim id (fun h => by omega)
    by_cases hS : QF w g F b
    · exact hS
    · exact .inr ⟨hF2, cs, (hk.block b hb hS).symm.trans hc⟩
/-- how many wait -/
def qM (g : Nat) (w : World) : Nat := match w.cell? ⟨g, 2, none⟩ with
  | some (.slice _ n _) => n
  | _ => 0
theorem qM_eq {w : World} {g : Nat} {hold : Int} {s : QS} {F : Nat → Prop} {vv wv ov : Value} (h : QAt w g hold s F vv wv ov) : qM g w = s.W.length := by
  obtain ⟨a, c, rfl⟩ := owns_sl h.wait
  unfold qM
  rw [show w.cell? ⟨g, 2, none⟩ = some (.slice a s.W.length c) from h.head.cell' (i := 2) rfl]
/-- a frame of 95 -/
def Fr95 (g : Nat) (a' : Act) : Prop := ∃ u : Nat → Value, a' = { tmps := #[.pointer (some ⟨g, 0, none⟩), u 1, u 2, u 3, u 4, u 5, u 6, u 7, u 8, u 9, u 10, u 11, u 12, u 13, u 14, u 15, u 16, u 17, u 18, u 19, u 20, u 21, u 22, u 23, u 24, u 25, u 26, u 27, u 28, u 29, u 30, u 31, u 32, u 33, u 34, u 35, u 36, u 37, u 38, u 39, u 40, u 41, u 42, u 43, u 44, u 45, u 46, u 47, u 48, u 49, u 50, u 51, u 52, u 53, u 54, u 55, u 56, u 57, u 58, u 59, u 60, u 61, u 62, u 63, u 64, u 65, u 66, u 67, u 68, u 69, u 70, u 71, u 72, u 73, u 74, u 75, u 76, u 77, u 78, u 79, u 80, u 81, u 82, u 83, u 84, u 85, u 86, u 87, u 88, u 89, u 90, u 91, u 92, u 93, u 94], defers := [] }
theorem fr95 (g : Nat) (u1 u2 u3 u4 u5 u6 u7 u8 u9 u10 u11 u12 u13 u14 u15 u16 u17 u18 u19 u20 u21 u22 u23 u24 u25 u26 u27 u28 u29 u30 u31 u32 u33 u34 u35 u36 u37 u38 u39 u40 u41 u42 u43 u44 u45 u46 u47 u48 u49 u50 u51 u52 u53 u54 u55 u56 u57 u58 u59 u60 u61 u62 u63 u64 u65 u66 u67 u68 u69 u70 u71 u72 u73 u74 u75 u76 u77 u78 u79 u80 u81 u82 u83 u84 u85 u86 u87 u88 u89 u90 u91 u92 u93 u94 : Value) : Fr95 g { tmps := #[.pointer (some ⟨g, 0, none⟩), u1, u2, u3, u4, u5, u6, u7, u8, u9, u10, u11, u12, u13, u14, u15, u16, u17, u18, u19, u20, u21, u22, u23, u24, u25, u26, u27, u28, u29, u30, u31, u32, u33, u34, u35, u36, u37, u38, u39, u40, u41, u42, u43, u44, u45, u46, u47, u48, u49, u50, u51, u52, u53, u54, u55, u56, u57, u58, u59, u60, u61, u62, u63, u64, u65, u66, u67, u68, u69, u70, u71, u72, u73, u74, u75, u76, u77, u78, u79, u80, u81, u82, u83, u84, u85, u86, u87, u88, u89, u90, u91, u92, u93, u94], defers := [] } := ⟨fun i => [u1, u2, u3, u4, u5, u6, u7, u8, u9, u10, u11, u12, u13, u14, u15, u16, u17, u18, u19, u20, u21, u22, u23, u24, u25, u26, u27, u28, u29, u30, u31, u32, u33, u34, u35, u36, u37, u38, u39, u40, u41, u42, u43, u44, u45, u46, u47, u48, u49, u50, u51, u52, u53, u54, u55, u56, u57, u58, u59, u60, u61, u62, u63, u64, u65, u66, u67, u68, u69, u70, u71, u72, u73, u74, u75, u76, u77, u78, u79, u80, u81, u82, u83, u84, u85, u86, u87, u88, u89, u90, u91, u92, u93, u94].getD (i - 1) undef, rfl⟩
/-- the lists of what was offered lie in blocks of their own; the vector is as it was, or new and not one of them -/
def Fresh (B : Nat) (vv0 : Value) (d z : Sl) (vv : Value) : Prop := (∀ b, d.v.ownBlock = some b → B ≤ b) ∧ (∀ b, z.v.ownBlock = some b → B ≤ b) ∧ (vv = vv0 ∨ ∀ b, vv.ownBlock = some b → B ≤ b ∧ d.v.ownBlock ≠ some b)
theorem Fresh.none (B : Nat) (vv : Value) : Fresh B vv ⟨none, 0, 0⟩ ⟨none, 0, 0⟩ vv := ⟨fun b h => by simp [Sl.v, Value.ownBlock] at h, fun b h => by simp [Sl.v, Value.ownBlock] at h, .inl rfl⟩
/-- what holds at Offer's label -/
def OfJ (w : World) (g : Nat) (hold : Int) (s : QS) (F : Nat → Prop) (vv0 : Value) (x : OpV) (D : List Dot) (G : List Run) (c : Int) (l : Nat) (a' : Act) (w' : World) : Prop :=
  l = 0 ∧ ∃ (s' : QS) (vv wv ov : Value) (d z : Sl), Fr95 g a' ∧ QAt w' g hold s' (fun b => F b ∨ w.heap.size ≤ b) vv wv ov ∧
    c = 0 ∧ ¬ (hasV s.V x.dot ∨ hasDot s.W x.dot = true) ∧ Ent.can s.V x.dot D ∧ drain s'.W.length s' = drain s.W.length ⟨addV s.V x.dot, s.W, s.O ++ [⟨{ x with deps := d, gone := z }, D, G⟩]⟩ ∧ s'.W.length ≤ s.W.length ∧ s'.O.length + s'.W.length = s.O.length + 1 + s.W.length ∧ Kept (QF w g F) w w' ∧ Fresh w.heap.size vv0 d z vv ∧ ∀ b, d.v.ownBlock = some b → b < w'.heap.size
/-- what Offer leaves -/
def OfferPost (w w' : World) (g : Nat) (hold : Int) (s : QS) (F : Nat → Prop) (vv0 : Value) (x : OpV) (D : List Dot) (G : List Run) (c : Int) (r : Ending) : Prop :=
  ∃ (a : Int) (d z : Sl) (s' : QS) (vv wv ov : Value), r = .returned (.tuple #[.int .i64 a, .int .i64 c]) ∧ OfferIs hold s c ⟨{ x with deps := d, gone := z }, D, G⟩ a s' ∧
    QAt w' g hold s' (fun b => F b ∨ w.heap.size ≤ b) vv wv ov ∧ Kept (QF w g F) w w' ∧ Fresh w.heap.size vv0 d z vv
set_option maxRecDepth 100000 in
set_option maxHeartbeats 16000000 in
theorem offer_any {w : World} {g : Nat} {hold : Int} {s : QS} {F : Nat → Prop} {vv wv ov : Value} {x : OpV} {D : List Dot} {G : List Run} {c : Int} (hq : QAt w g hold s F vv wv ov) (hD : SlAt dotE w x.deps.v D) (hG : SlAt runE w x.gone.v G)
    (hDl : D.length ≤ 1000000) (hGl : G.length ≤ 1000000) (hWl : s.W.length ≤ 10000) (hOl : s.O.length ≤ 100000)
    (hchk : ∀ w', Kept (fun _ => False) w w' → Calls Tryz.prog 37 #[.agg (opA x)] w' fun r w'' => r = .returned (.int .i64 c) ∧ Kept (fun _ => False) w' w'') (hok : c = 0 → x.dot.Ok) (hF : ∀ b, F b → b < w.heap.size) :
    Calls Tryz.prog 13 #[.pointer (some ⟨g, 0, none⟩), .agg (opA x)] w fun r w' => OfferPost w w' g hold s F vv x D G c r := by
  have hmix : Tryz.prog.follows .mixedOrders = true := by kernel_rfl
  have hB := Blk.new w 42 (opA x)
  have k0 : Kept (fun _ => False) w (w.alloc (.cells (opA x) 42)) := (Kept.refl _ _).alloc _
  have HQ := Lib.hid hq
  have HD := Lib.hid hD
  have HG := Lib.hid hG
  have HC := Lib.hid hchk
  have HOK := Lib.hid hok
  have HF := Lib.hid hF
  clear hq hD hG hchk hok hF
  go_enter Tryz.func13, Tryz.ntmps13
  go_wp2_with fail
  refine wp_scope_any (OfJ w g hold s F vv x D G c) (fun _ _ w' => qM g w') ?_ ?_
  · intro pass
    go_upto_region 1 with fail
    generalize w.alloc (.cells (opA x) 42) = w0 at *
    have HB0 := Lib.hid hB
    have K0 := Lib.hid k0
    clear hB k0
    go_upto_region 4 with (first
      | (refine wpList_load_row rfl 42 _ rfl w.heap.size rfl 42 _ (0, 0) _ HB0.out Tryz.underlying42 rfl (by rw [opA_size]; exact size_op) ?_)
      | (go_at_call 37; refine (HC.out _ K0.out).mono ?_; rintro r w1 ⟨rfl, hk1⟩; have HB1 := Lib.hid (hk1.blk (fun h => h) HB0.out); have K1 := Lib.hid (K0.out.trans hk1 (fun _ _ h => h))))
    clear hk1 HB0 K0
    by_cases hc : c = 0
    case neg =>
      have hcb : (c != 0) = true := by simpa using hc
      have HCN := Lib.hid hc
      clear hc
      go_wp2_with fail
      simp only [Exit.jumps]
      go_ret2
      exact ⟨0, ⟨none, 0, 0⟩, ⟨none, 0, 0⟩, s, vv, wv, ov, rfl, .inl ⟨HCN.out, rfl, rfl⟩, ((HQ.out.kept K1.out).wider (fun _ h => .inl h)), K1.out.mono (fun _ _ h => h.elim), Fresh.none _ _⟩
    case pos =>
      subst hc
      have HX := Lib.hid (HOK.out rfl)
      go_upto_region 6 with fail
      have z1 : w.heap.size < w1.heap.size := HB1.out.lt
      have zg : g < w.heap.size := HQ.out.head.lt
      have Q1 := Lib.hid (HQ.out.kept K1.out)
      have q1 := cell_grown (w := w1) (by show g < _; omega) (show w1.cell? ⟨g, 1, none⟩ = some vv from Q1.out.head.cell' (i := 1) rfl)
      have q2 := cell_grown (w := w1) (by show g < _; omega) (show w1.cell? ⟨g, 2, none⟩ = some wv from Q1.out.head.cell' (i := 2) rfl)
      have x0 := cell_grown (w := w1) (by show w.heap.size < _; omega) (show w1.cell? ⟨w.heap.size, 0, none⟩ = some (.int .i64 x.dot.site) from HB1.out.cell' (i := 0) rfl)
      have x1 := cell_grown (w := w1) (by show w.heap.size < _; omega) (show w1.cell? ⟨w.heap.size, 1, none⟩ = some (.int .i64 x.dot.seq) from HB1.out.cell' (i := 1) rfl)
      have HH := Lib.hid (fun (w' : World) (hk : Grew w1 w') => hasV_grew ((owns_slAt (E := dotE) Q1.out.vec).kept hk.kept) (by have := Q1.out.vlen; omega) x.dot)
      have HN := Lib.hid (fun (w' : World) (hk : Grew w1 w') => contains_any (x := x) (hk.kept.cell (show w1.cell? ⟨w.heap.size, 0, none⟩ = some (.int .i64 x.dot.site) from HB1.out.cell' (i := 0) rfl)) (hk.kept.cell (show w1.cell? ⟨w.heap.size, 1, none⟩ = some (.int .i64 x.dot.seq) from HB1.out.cell' (i := 1) rfl)) (Nat.lt_of_lt_of_le z1 hk.size) ((owns_slAt (E := entE) Q1.out.wait).kept hk.kept) (by omega))
      have HHV : Hid (∀ b : Bool, decide (hasV s.V x.dot) = b → (b = true ↔ hasV s.V x.dot)) := Lib.hid (fun b h => by subst h; exact decide_eq_true_iff)
      by_cases hv1 : hasV s.V x.dot
      · rw [decide_eq_true hv1] at HH
        have HV1 := Lib.hid hv1
        clear hv1 HHV
        go_quiet_grown (first
          | (go_at_call 38; exact grown_call HH.out _ _))
        go_wp2_with fail
        simp only [Exit.jumps]
        go_ret2
        exact ⟨3, ⟨none, 0, 0⟩, ⟨none, 0, 0⟩, s, vv, wv, ov, rfl, .inr (.inl ⟨rfl, .inl HV1.out, rfl, rfl⟩), ((Q1.out.kept (Grew.grown _ _).kept).wider (fun _ h => .inl h)), (K1.out.trans (Grew.grown _ _).kept (fun _ _ h => h)).mono (fun _ _ h => h.elim), Fresh.none _ _⟩
      rw [decide_eq_false hv1] at HH
      by_cases hn1 : hasDot s.W x.dot = true
      · rw [hn1] at HN
        have HN1 := Lib.hid hn1
        clear hn1 hv1 HHV
        go_quiet_grown (first
          | (go_at_call 38; exact grown_call HH.out _ _)
          | (go_at_call 39; exact grown_call HN.out _ _))
        go_wp2_with fail
        simp only [Exit.jumps]
        go_ret2
        exact ⟨3, ⟨none, 0, 0⟩, ⟨none, 0, 0⟩, s, vv, wv, ov, rfl, .inr (.inl ⟨rfl, .inr HN1.out, rfl, rfl⟩), ((Q1.out.kept (Grew.grown _ _).kept).wider (fun _ h => .inl h)), (K1.out.trans (Grew.grown _ _).kept (fun _ _ h => h)).mono (fun _ _ h => h.elim), Fresh.none _ _⟩
      have HNO := Lib.hid (show ¬ (hasV s.V x.dot ∨ hasDot s.W x.dot = true) from fun h => h.elim hv1 hn1)
      rw [Bool.not_eq_true] at hn1
      rw [hn1] at HN
      clear hn1 hv1 HHV
      go_quiet_grown (first
        | (go_at_call 38; exact grown_call HH.out _ _)
        | (go_at_call 39; exact grown_call HN.out _ _))
      have HB2 := Lib.hid ((Grew.grown (w := w1) nq osq).kept.blk (fun h => h) HB1.out)
      have K2 := Lib.hid (K1.out.trans (Grew.grown (w := w1) nq osq).kept (fun _ _ h => h))
      clear q1 q2 x0 x1 HH HN Q1 K1 HB1
      generalize grow (w1.drewN nq) osq = w2 at *
      have HTW := Lib.hid (twin_any (HD.out.kept K2.out) (HG.out.kept K2.out) (by omega) (by omega))
      go_upto_region 9 with (first
        | (refine wpList_load_row rfl 42 _ rfl w.heap.size rfl 42 _ (0, 0) _ HB2.out Tryz.underlying42 rfl (by rw [opA_size]; exact size_op) ?_)
        | (refine wpList_store_row rfl 42 _ _ rfl w.heap.size (opA { x with deps := d, gone := z }) rfl rfl 42 (opA x) HB3.out (by rw [opA_size]; exact size_op) (by rw [opA_size, opA_size]) (opA_one _) ?_)
        | (go_at_call 41; refine HTW.out.mono ?_; rintro r w3 ⟨d, z, rfl, ho3, hz3, hk3⟩; have HB3 := Lib.hid (hk3.blk (fun h => h) HB2.out)))
      have zw2 := K2.out.size
      have zb2 := HB2.out.lt
      have n1 := owns_new ho3
      have n2 := owns_new hz3
      have kS : Kept (fun b => b = w.heap.size) w3 (w3.setRow w.heap.size (opA { x with deps := d, gone := z })) := (Kept.refl (fun b => b = w.heap.size) w3).setRow (fun _ => rfl) _
      have K4 := Lib.hid ((K2.out.trans hk3 (fun _ _ h => h)).trans kS (fun b hb e => by omega))
      have Q4 := Lib.hid (HQ.out.kept K4.out)
      have E4 : Hid (Ent.Own (w3.setRow w.heap.size (opA { x with deps := d, gone := z })) ⟨{ x with deps := d, gone := z }, D, G⟩) := Lib.hid
        ⟨owns_lower (owns_keep ho3 kS (fun b hb e => by have := n1 b hb; omega)) (Nat.zero_le _), owns_lower (owns_keep hz3 kS (fun b hb e => by have := n2 b hb; omega)) (Nat.zero_le _), HX.out, hDl, hGl⟩
      have HB4 := Lib.hid (HB3.out.row (opA { x with deps := d, gone := z }))
      have FR := Lib.hid (show Fresh w.heap.size vv d z vv from ⟨fun b hb => Nat.le_trans zw2 (n1 b hb), fun b hb => Nat.le_trans zw2 (n2 b hb), .inl rfl⟩)
      have DLT : Hid (∀ b, d.v.ownBlock = some b → b < (w3.setRow w.heap.size (opA { x with deps := d, gone := z })).heap.size) := Lib.hid (fun b hb => by obtain ⟨cs, hc⟩ := owns_spared ho3 b hb; rw [setRow_size]; exact hc.lt)
      clear kS n1 n2 ho3 hz3 hk3 HB3 HTW HB2 K2 zb2 zw2
      generalize w3.setRow w.heap.size (opA { x with deps := d, gone := z }) = w4 at *
      have MAY := Lib.hid (may_grew (x := { x with deps := d, gone := z }) Q4.out.head (owns_slAt (E := dotE) Q4.out.vec) (E4.out.at_).deps (by have := Q4.out.vlen; omega) (by show D.length ≤ 1000000000; omega))
      have HDOT : ({ x with deps := d, gone := z } : OpV).dot = x.dot := rfl
      rw [HDOT] at MAY
      clear HDOT
      by_cases hcan : Ent.can s.V x.dot D
      case neg =>
        rw [decide_eq_false hcan] at MAY
        have NC := Lib.hid hcan
        clear hcan
        go_upto_region 10 with (first
          | (refine wpList_load_row rfl 42 _ rfl w.heap.size rfl 42 _ (0, 0) _ HB4.out Tryz.underlying42 rfl (by rw [opA_size]; exact size_op) ?_)
          | (go_at_call 42; refine MAY.out.mono ?_; rintro r w5 ⟨rfl, hg5⟩))
        have Q5 := Lib.hid (Q4.out.kept hg5.kept)
        have E5 := Lib.hid (E4.out.keep hg5.kept (fun _ _ h => h.elim))
        have B5 := Lib.hid (hg5.kept.blk (fun h => h) HB4.out)
        have K5 := Lib.hid (K4.out.trans hg5.kept (fun _ _ h => h))
        clear hg5 Q4 E4 HB4 K4 MAY
        have zw5 := B5.out.lt
        have x0 : w5.cell? ⟨w.heap.size, 0, none⟩ = some (.int .i64 x.dot.site) := B5.out.cell' (i := 0) rfl
        have x1 : w5.cell? ⟨w.heap.size, 1, none⟩ = some (.int .i64 x.dot.seq) := B5.out.cell' (i := 1) rfl
        have x2 : w5.cell? ⟨w.heap.size, 2, none⟩ = some (.slice d.a d.n d.c) := B5.out.cell' (i := 2) rfl
        have x3 : w5.cell? ⟨w.heap.size, 3, none⟩ = some (.int .i64 x.kind) := B5.out.cell' (i := 3) rfl
        have x4 : w5.cell? ⟨w.heap.size, 4, none⟩ = some (.int .i64 x.id.t) := B5.out.cell' (i := 4) rfl
        have x5 : w5.cell? ⟨w.heap.size, 5, none⟩ = some (.int .i64 x.id.s) := B5.out.cell' (i := 5) rfl
        have x6 : w5.cell? ⟨w.heap.size, 6, none⟩ = some (.int .i64 x.ref.t) := B5.out.cell' (i := 6) rfl
        have x7 : w5.cell? ⟨w.heap.size, 7, none⟩ = some (.int .i64 x.ref.s) := B5.out.cell' (i := 7) rfl
        have x8 : w5.cell? ⟨w.heap.size, 8, none⟩ = some (.string x.text) := B5.out.cell' (i := 8) rfl
        have x9 : w5.cell? ⟨w.heap.size, 9, none⟩ = some (.slice z.a z.n z.c) := B5.out.cell' (i := 9) rfl
        have x10 : w5.cell? ⟨w.heap.size, 10, none⟩ = some (.int .i64 x.site) := B5.out.cell' (i := 10) rfl
        have q2 : w5.cell? ⟨g, 2, none⟩ = some wv := Q5.out.head.cell' (i := 2) rfl
        have q2a := ((Kept.refl (fun _ => False) w5).alloc (.cells #[.int .i64 x.dot.site, .int .i64 x.dot.seq, .slice d.a d.n d.c, .int .i64 x.kind, .int .i64 x.id.t, .int .i64 x.id.s, .int .i64 x.ref.t, .int .i64 x.ref.s, .string x.text, .slice z.a z.n z.c, .int .i64 x.site] 42)).cell q2
        have LD := Lib.hid (lit_op w5 ⟨{ x with deps := d, gone := z }, D, G⟩)
        have kL : Kept (fun _ => False) w5 ((w5.alloc (.cells #[.int .i64 x.dot.site, .int .i64 x.dot.seq, .slice d.a d.n d.c, .int .i64 x.kind, .int .i64 x.id.t, .int .i64 x.id.s, .int .i64 x.ref.t, .int .i64 x.ref.s, .string x.text, .slice z.a z.n z.c, .int .i64 x.site] 42)).drew) := ((Kept.refl (fun _ => False) w5).alloc _).drew
        have QL := Lib.hid (Q5.out.kept kL)
        have EL := Lib.hid (E5.out.keep kL (fun _ _ h => h.elim))
        have KL := Lib.hid kL
        clear kL
        go_region_law (refine step_append_row (E := entE) rfl (.tmp 41) (.tmp 43) 47 rfl 0 42 _ 128 Tryz.underlying47 info_op rfl (by decide) rfl rfl QL.out.wait (LD.out.kept (Kept.refl (fun _ => False) _).drew) (by omega) (Nat.zero_le _) ?_; intro v6 w6 ho6 hg6; obtain ⟨a6, c6, rfl⟩ := owns_sl ho6; have q2 := ((grow1_kept hg6).blk (fun hb => by obtain ⟨cs, hc⟩ := QL.out.wOp g hb; exact QL.out.head.ne_ hc (of_decide_eq_true (by kernel_rfl)) rfl) QL.out.head).cell' (i := 2) rfl; have f2 := ((grow1_kept hg6).blk (fun hb => by obtain ⟨cs, hc⟩ := QL.out.wOp g hb; exact QL.out.head.ne_ hc (of_decide_eq_true (by kernel_rfl)) rfl) QL.out.head).frozen 2)
        all_goals
          obtain ⟨QP, kP⟩ := QL.out.pushed EL.out ho6 hg6 (by omega)
          have KQ := Lib.hid (((K5.out.trans KL.out (fun _ _ h => h)).mono (S' := QF w g F) (fun _ _ h => h.elim)).trans kP (fun b hb h => h.back (K5.out.trans KL.out (fun _ _ h => h)) hb))
          have zL : w.heap.size ≤ (w5.alloc (.cells #[.int .i64 x.dot.site, .int .i64 x.dot.seq, .slice d.a d.n d.c, .int .i64 x.kind, .int .i64 x.id.t, .int .i64 x.id.s, .int .i64 x.ref.t, .int .i64 x.ref.s, .string x.text, .slice z.a z.n z.c, .int .i64 x.site] 42)).drew.heap.size := (K5.out.trans KL.out (fun _ _ h => h)).size
          have Q7 := Lib.hid (QP.wider (F' := fun b => F b ∨ w5.heap.size ≤ b) (fun b h => h.imp id (fun h => Nat.le_trans KL.out.size h)))
          have B7 := Lib.hid (kP.blk (fun h => by
            rcases h with h | ⟨h, _⟩
            · have h : w.heap.size = g := h; omega
            · exact Nat.lt_irrefl _ (HF.out _ h)) (KL.out.blk (fun h => h) B5.out))
          clear x0 x1 x2 x3 x4 x5 x6 x7 x8 x9 x10 q2 q2a f2 QP kP ho6 hg6 zL
          generalize w6.setCell ⟨g, 2, none⟩ (.slice a6 (s.W.length + 1) c6) = w7 at *
          have q2 : w7.cell? ⟨g, 2, none⟩ = some (.slice a6 (s.W.length + 1) c6) := Q7.out.head.cell' (i := 2) rfl
          have q0 : w7.cell? ⟨g, 0, none⟩ = some (.int .i64 hold) := Q7.out.head.cell' (i := 0) rfl
          have zg7 : w.heap.size ≤ w5.heap.size := K5.out.size
          by_cases hle : (s.W.length : Int) + 1 ≤ hold
          · have HLE := Lib.hid hle
            go_wp2_with fail
            go_region
            all_goals
              go_wp2_with fail
              simp only [Exit.jumps]
              go_ret2
              exact ⟨2, d, z, ⟨s.V, s.W ++ [_], s.O⟩, vv, _, ov, rfl, .inr (.inr (.inr (.inl ⟨rfl, HNO.out, NC.out, HLE.out, rfl, rfl⟩))), (Q7.out.kept (Kept.refl _ _).drew).wider (fun b h => h.imp id (fun h => by omega)), KQ.out.drew, FR.out⟩
          · have HLE : Hid (hold < (s.W.length : Int) + 1) := Lib.hid (by omega)
            have Q8 := Lib.hid (Q7.out.kept (Kept.refl (fun _ => False) w7).drew)
            have B8 := Lib.hid ((Kept.refl (fun _ => False) w7).drew.blk (fun h => h) B7.out)
            have K8 := Lib.hid (KQ.out.trans (Kept.refl (fun _ => False) w7).drew (fun _ _ h => h.elim))
            have HGR := Lib.hid (greatest_any (owns_slAt (E := entE) Q8.out.wait) (fun e he => (Q8.out.ents e (List.mem_append.2 (.inl he))).at_) (fun e he => Nat.le_trans (Q8.out.ents e (List.mem_append.2 (.inl he))).len (by decide)) (by have := Q8.out.wlen; omega))
            go_wp2_with fail
            go_region
            all_goals
              clear q0
              generalize w7.drew = w8 at *
              have q2 : w8.cell? ⟨g, 2, none⟩ = some (.slice a6 (s.W.length + 1) c6) := Q8.out.head.cell' (i := 2) rfl
              have hgr2 : Calls Tryz.prog 43 #[.slice a6 (s.W.length + 1) c6, .func (.func 44) #[] #[]] w8 fun r w' => r = .returned (.int .i64 (grI (s.W ++ [⟨{ x with deps := d, gone := z }, D, G⟩]) (s.W.length + 1))) ∧ Grew w8 w' := by
                have := HGR.out
                rw [show (s.W ++ [(⟨{ x with deps := d, gone := z }, D, G⟩ : Ent)]).length = s.W.length + 1 by simp] at this
                exact this
              have HG2 := Lib.hid hgr2
              clear hgr2
              go_upto_region 14 with (go_at_call 43; refine HG2.out.mono ?_; rintro r w9 ⟨rfl, hg9⟩)
              have Q9 := Lib.hid (Q8.out.kept hg9.kept.drew)
              have B9 := Lib.hid ((hg9.kept.drew).blk (fun h => h) B8.out)
              have K9 := Lib.hid (K8.out.trans hg9.kept.drew (fun _ _ h => h.elim))
              have D9 : w9.drew = w9.drew := rfl
              have hxl : (s.W ++ [(⟨{ x with deps := d, gone := z }, D, G⟩ : Ent)]).length = s.W.length + 1 := by simp
              have hil := grI_lt (s.W ++ [(⟨{ x with deps := d, gone := z }, D, G⟩ : Ent)]) (s.W.length + 1) (by omega) (by omega)
              obtain ⟨f, hf⟩ := get_of_lt hil
              have FF := Lib.hid hf
              obtain ⟨hl0, ⟨_, hno⟩ | ⟨b, cap, hv, hz0, hO⟩⟩ := own_of (E := entE) Q9.out.wait
              · have := congrArg List.length hno; rw [hxl] at this; simp at this
              injection hv with ha6 hl6 hc6
              subst ha6
              obtain rfl : cap = c6 := hc6.symm
              clear hl0 hz0 hl6 hc6
              have hbF := Q9.out.wF b rfl
              have QB : ∀ x2, x2 < w.heap.size → QF w9.drew g (fun b => F b ∨ w5.heap.size ≤ b) x2 → QF w g F x2 := fun x2 hx2 h => by
                rcases h with h | ⟨h, cs, hc⟩
                · exact .inl h
                · have hF2 : F x2 := h.elim id (fun h => by omega)
                  by_cases hS : QF w g F x2
                  · exact hS
                  · exact .inr ⟨hF2, cs, (K9.out.block x2 hx2 hS).symm.trans hc⟩
              have hbox : w.heap.size ≠ b := by
                rcases hbF with h | h
                · have := HF.out b h; omega
                · omega
              have hqx : Blk w9.drew g 49 #[.int .i64 hold, vv, .slice (some ⟨b, 0, none⟩) (s.W ++ [(⟨{ x with deps := d, gone := z }, D, G⟩ : Ent)]).length cap, ov] := by rw [hxl]; exact Q9.out.head
              have GN := Lib.hid (gone_any hqx hO hf (by omega))
              have Q9' : Hid (QAt w9.drew g hold ⟨s.V, s.W ++ [(⟨{ x with deps := d, gone := z }, D, G⟩ : Ent)], s.O⟩ (fun b => F b ∨ w5.heap.size ≤ b) vv (.slice (some ⟨b, 0, none⟩) (s.W ++ [(⟨{ x with deps := d, gone := z }, D, G⟩ : Ent)]).length cap) ov) := Lib.hid (by rw [hxl]; exact Q9.out)
              have HIL := Lib.hid hil
              have HXL := Lib.hid hxl
              clear hf hqx hO hbF hil hxl Q9 D9
              generalize hgi : grI (s.W ++ [(⟨{ x with deps := d, gone := z }, D, G⟩ : Ent)]) (s.W.length + 1) = gi at *
              have HGI := Lib.hid hgi
              clear hgi
              have x0 : w9.cell? ⟨w.heap.size, 0, none⟩ = some (.int .i64 x.dot.site) := B9.out.cell' (i := 0) rfl
              have x1 : w9.cell? ⟨w.heap.size, 1, none⟩ = some (.int .i64 x.dot.seq) := B9.out.cell' (i := 1) rfl
              have hfld : ∀ w, (Instr.field 42 (.agg (opA f.v)) 0).run Tryz.prog w = .ok (.agg #[.int .i64 f.v.dot.site, .int .i64 f.v.dot.seq]) w := fun _ => by kernel_rfl
              have hfin : ∀ w10, Blk w10 g 49 #[.int .i64 hold, vv, .slice (some ⟨b, 0, none⟩) ((s.W ++ [(⟨{ x with deps := d, gone := z }, D, G⟩ : Ent)]).length - 1) cap, ov] → OwnAt entE w10 42 b cap ((s.W ++ [(⟨{ x with deps := d, gone := z }, D, G⟩ : Ent)]).eraseIdx gi) → Kept (fun x => x = g ∨ x = b) w9.drew w10 → ∀ a : Int, (a = if f.v.dot = x.dot then 4 else 2) → OfferPost w w10 g hold s F vv x D G 0 (.returned (.tuple #[.int .i64 a, .int .i64 0])) := by
                intro w10 h1 hO10 hk10 a ha
                obtain ⟨QG, kG⟩ := Q9'.out.goneAt HIL.out h1 hO10 hk10
                exact ⟨a, d, z, _, vv, _, ov, rfl, .inr (.inr (.inr (.inr ⟨rfl, HNO.out, NC.out, HLE.out, f, by rw [HGI.out]; exact FF.out, by rw [HGI.out], ha⟩))), QG.wider (fun b h => h.imp id (fun h => by omega)), K9.out.trans kG (fun b hb h => QB b hb h), FR.out⟩
              have hcall := Lib.hid (show ∀ (r : Ending) (w10 : World), (r = .returned (.agg (opA f.v)) ∧ Blk w10 g 49 #[.int .i64 hold, vv, .slice (some ⟨b, 0, none⟩) ((s.W ++ [(⟨{ x with deps := d, gone := z }, D, G⟩ : Ent)]).length - 1) cap, ov] ∧ OwnAt entE w10 42 b cap ((s.W ++ [(⟨{ x with deps := d, gone := z }, D, G⟩ : Ent)]).eraseIdx gi) ∧ Kept (fun x => x = g ∨ x = b) w9.drew w10) → r = .returned (.agg (opA f.v)) ∧ (∀ a : Int, (a = if f.v.dot = x.dot then 4 else 2) → OfferPost w w10 g hold s F vv x D G 0 (.returned (.tuple #[.int .i64 a, .int .i64 0]))) ∧ w10.cell? ⟨w.heap.size, 0, none⟩ = some (.int .i64 x.dot.site) ∧ w10.cell? ⟨w.heap.size, 1, none⟩ = some (.int .i64 x.dot.seq) from fun r w10 ⟨e, h1, hO10, hk10⟩ => ⟨e, hfin w10 h1 hO10 hk10, (hk10.blk (fun e => by rcases e with e | e; exact absurd (show w.heap.size = g from e) (by omega); exact hbox e) B9.out).cell' (i := 0) rfl, (hk10.blk (fun e => by rcases e with e | e; exact absurd (show w.heap.size = g from e) (by omega); exact hbox e) B9.out).cell' (i := 1) rfl⟩)
              have GN2 := Lib.hid (GN.out.mono hcall.out)
              clear hfin hcall QB
              obtain ⟨fs, hfs⟩ : ∃ a, f.v.dot.site = a := ⟨_, rfl⟩
              obtain ⟨fq, hfq⟩ : ∃ a, f.v.dot.seq = a := ⟨_, rfl⟩
              have HFS := Lib.hid hfs
              have HFQ := Lib.hid hfq
              rw [hfs, hfq] at hfld
              clear hfs hfq
              generalize opA f.v = fA at *
              by_cases hs : fs = x.dot.site
              · by_cases hsq : fq = x.dot.seq
                · have e1 : (fs == x.dot.site) = true := beq_iff_eq.2 hs
                  have e2 : (fq == x.dot.seq) = true := beq_iff_eq.2 hsq
                  have EQ : Hid (f.v.dot = x.dot) := Lib.hid (Dot.ext_iff.2 ⟨HFS.out.trans hs, HFQ.out.trans hsq⟩)
                  clear hs hsq
                  go_wp2_with fail
                  go_region_with (go_at_call 45; refine GN2.out.mono ?_; rintro r w10 ⟨rfl, FIN, x0, x1⟩; have FIN := Lib.hid FIN)
                  all_goals
                    go_wp2_with fail
                    simp only [Exit.jumps]
                    go_ret2
                    exact FIN.out 4 (if_pos EQ.out).symm
                · have e1 : (fs == x.dot.site) = true := beq_iff_eq.2 hs
                  have e2 : (fq == x.dot.seq) = false := beq_eq_false_iff_ne.2 hsq
                  have EQ : Hid (¬ f.v.dot = x.dot) := Lib.hid (fun h => hsq (by rw [← HFQ.out, h]))
                  clear hs hsq
                  go_wp2_with fail
                  go_region_with (go_at_call 45; refine GN2.out.mono ?_; rintro r w10 ⟨rfl, FIN, x0, x1⟩; have FIN := Lib.hid FIN)
                  all_goals
                    go_wp2_with fail
                    simp only [Exit.jumps]
                    go_ret2
                    exact FIN.out 2 (if_neg EQ.out).symm
              · have e1 : (fs == x.dot.site) = false := beq_eq_false_iff_ne.2 hs
                have EQ : Hid (¬ f.v.dot = x.dot) := Lib.hid (fun h => hs (by rw [← HFS.out, h]))
                clear hs
                go_wp2_with fail
                go_region_with (go_at_call 45; refine GN2.out.mono ?_; rintro r w10 ⟨rfl, FIN, x0, x1⟩; have FIN := Lib.hid FIN)
                all_goals
                  go_wp2_with fail
                  simp only [Exit.jumps]
                  go_ret2
                  exact FIN.out 2 (if_neg EQ.out).symm
      case pos =>
        rw [decide_eq_true hcan] at MAY
        have NC := Lib.hid hcan
        clear hcan
        have hadd : whyAdd s.V x.dot = 0 := add_can HX.out NC.out
        go_upto_region 17 with (first
          | (refine wpList_load_row rfl 42 _ rfl w.heap.size rfl 42 _ (0, 0) _ HB4.out Tryz.underlying42 rfl (by rw [opA_size]; exact size_op) ?_)
          | (go_at_call 42; refine MAY.out.mono ?_; rintro r w5 ⟨rfl, hg5⟩))
        have Q5 := Lib.hid (Q4.out.kept hg5.kept)
        have E5 := Lib.hid (E4.out.keep hg5.kept (fun _ _ h => h.elim))
        have B5 := Lib.hid (hg5.kept.blk (fun h => h) HB4.out)
        have K5 := Lib.hid (K4.out.trans hg5.kept (fun _ _ h => h))
        have D5 := Lib.hid (fun b hb => Nat.lt_of_lt_of_le (DLT.out b hb) hg5.kept.size)
        have ADD := Lib.hid hadd
        clear hg5 Q4 E4 HB4 K4 MAY hadd
        have HDEL := Lib.hid (deliver_any (e := ⟨{ x with deps := d, gone := z }, D, G⟩) Q5.out.head (owns_slAt (E := dotE) Q5.out.vec) (by have := Q5.out.vlen; omega) Q5.out.out (by have := Q5.out.olen; omega) ADD.out)
        go_wp2_with (first
          | (refine wpList_load_row rfl 42 _ rfl w.heap.size rfl 42 _ (0, 0) _ B5.out Tryz.underlying42 rfl (by rw [opA_size]; exact size_op) ?_)
          | (go_at_call 46; refine HDEL.out.mono ?_; rintro r w6 ⟨rfl, v', ov', h1, hv, hO, hb, hk⟩))
        go_step3
        obtain ⟨QD, KD⟩ := Q5.out.delivered E5.out h1 hv hO hb hk (by omega)
        obtain ⟨rest, hf, hw⟩ := pass 0 _ w6 ⟨rfl, ⟨addV s.V x.dot, s.W, s.O ++ [_]⟩, _, _, _, d, z, fr95 g _ _ _ _ _ _ _ _ _ _ _ _ _ _ _ _ _ _ _ _ _ _ _ _ _ _ _ _ _ _ _ _ _ _ _ _ _ _ _ _ _ _ _ _ _ _ _ _ _ _ _ _ _ _ _ _ _ _ _ _ _ _ _ _ _ _ _ _ _ _ _ _ _ _ _ _ _ _ _ _ _ _ _ _ _ _ _ _ _ _ _ _ _ _, QD.wider (fun b h => h.imp id (fun h => Nat.le_trans K5.out.size h)), rfl, HNO.out, NC.out, rfl, Nat.le_refl _, by show (s.O ++ [_]).length + s.W.length = _; simp, (K5.out.mono (S' := QF w g F) (fun _ _ h => h.elim)).trans KD (fun b hb h => h.back K5.out hb), ⟨FR.out.1, FR.out.2.1, .inr (fun b hb => ⟨Nat.le_trans K5.out.size (owns_new hv b hb), fun e => by have := owns_new hv b hb; have := D5.out b e; omega⟩)⟩, fun b hb => Nat.lt_of_lt_of_le (D5.out b hb) KD.size⟩
        cases hf
        simp only [Exit.then]
        first | exact hw | (apply_assumption; exact hw)
  · rintro l a' w' ⟨rfl, s', vv, wv, ov, d, z, ⟨u, rfl⟩, hq, rfl, hno, hcan, hdr, hl1, hl2, hk, hfr, hdlt⟩
    refine ⟨_, rfl, ?_⟩
    have Q0 := Lib.hid hq
    have FR := Lib.hid hfr
    have DLT := Lib.hid hdlt
    have NO := Lib.hid hno
    have NC := Lib.hid hcan
    have DR := Lib.hid hdr
    have L2 := Lib.hid hl2
    have K0 := Lib.hid hk
    have hMx := Lib.hid (qM_eq hq)
    have L1 := Lib.hid hl1
    have hwl : s'.W.length ≤ 10000 := Nat.le_trans hl1 hWl
    have q2 : w'.cell? ⟨g, 2, none⟩ = some wv := hq.head.cell' (i := 2) rfl
    obtain ⟨b2, c2, rfl⟩ := owns_sl hq.wait
    clear hq hno hcan hdr hl1 hl2 hk hfr hdlt HQ HD HG HC HOK
    go_wp2_with fail
    go_loopw [77] (fun iv wr => ∃ n : Nat, iv = .int .i64 n ∧ n ≤ s'.W.length ∧ (∀ e ∈ s'.W.take n, ¬ Ent.can s'.V e.v.dot e.D) ∧ Grew w' wr) (fun iv _ => s'.W.length - (intOf iv).toNat)
    case atStart => exact ⟨0, rfl, Nat.zero_le _, fun e he => by simp at he, Grew.refl _⟩
    case round =>
      obtain ⟨n, rfl, hn, hnone, hg⟩ := hrel
      have hn0 : (0 : Int) ≤ n := by omega
      have NONE := Lib.hid hnone
      have GR := Lib.hid hg
      clear hnone
      by_cases hlt : n < s'.W.length
      case neg =>
        have hnl : ¬ (n : Int) < s'.W.length := by omega
        have hnn : n = s'.W.length := by omega
        have ND : Hid (∀ e ∈ s'.W, ¬ Ent.can s'.V e.v.dot e.D) := Lib.hid (fun e he => NONE.out e (by rw [List.take_of_length_le (by omega)]; exact he))
        clear hnn hg
        go_wp2_with fail
        simp only [Exit.jumps]
        go_ret2
        exact ⟨1, d, z, s', _, _, _, rfl, .inr (.inr (.inl ⟨rfl, NO.out, NC.out, rfl, by rw [← DR.out]; exact (drain_none ND.out).symm⟩)), Q0.out.kept GR.out.kept, K0.out.trans GR.out.kept (fun _ _ h => h.elim), FR.out⟩
      case pos =>
        have hltI : (n : Int) < s'.W.length := by omega
        obtain ⟨e, he⟩ := get_of_lt hlt
        have Q1 := Lib.hid (Q0.out.kept GR.out.kept)
        have K1 := Lib.hid (K0.out.trans GR.out.kept (fun _ _ h => h.elim))
        obtain ⟨hl0, ⟨_, hno⟩ | ⟨b, cap, hv, hz0, hO⟩⟩ := own_of (E := entE) Q1.out.wait
        · rw [hno] at hlt; simp at hlt
        injection hv with ha6 hl6 hc6
        subst ha6
        obtain rfl : cap = c2 := hc6.symm
        clear hl0 hz0 hl6 hc6
        have EM := Q1.out.ents e (List.mem_append.2 (.inl (List.mem_of_getElem? he)))
        have q2 : wr.cell? ⟨g, 2, none⟩ = some (.slice (some ⟨b, 0, none⟩) s'.W.length cap) := Q1.out.head.cell' (i := 2) rfl
        have c0 : wr.cell? ⟨b, n * 11, none⟩ = some (.int .i64 e.v.dot.site) := OwnAt.ent hO he (j := 0) rfl
        have c1 : wr.cell? ⟨b, n * 11 + 1, none⟩ = some (.int .i64 e.v.dot.seq) := OwnAt.ent hO he (j := 1) rfl
        have c2 : wr.cell? ⟨b, n * 11 + 2, none⟩ = some (.slice e.v.deps.a e.v.deps.n e.v.deps.c) := OwnAt.ent hO he (j := 2) rfl
        have c3 : wr.cell? ⟨b, n * 11 + 3, none⟩ = some (.int .i64 e.v.kind) := OwnAt.ent hO he (j := 3) rfl
        have c4 : wr.cell? ⟨b, n * 11 + 4, none⟩ = some (.int .i64 e.v.id.t) := OwnAt.ent hO he (j := 4) rfl
        have c5 : wr.cell? ⟨b, n * 11 + 5, none⟩ = some (.int .i64 e.v.id.s) := OwnAt.ent hO he (j := 5) rfl
        have c6 : wr.cell? ⟨b, n * 11 + 6, none⟩ = some (.int .i64 e.v.ref.t) := OwnAt.ent hO he (j := 6) rfl
        have c7 : wr.cell? ⟨b, n * 11 + 7, none⟩ = some (.int .i64 e.v.ref.s) := OwnAt.ent hO he (j := 7) rfl
        have c8 : wr.cell? ⟨b, n * 11 + 8, none⟩ = some (.string e.v.text) := OwnAt.ent hO he (j := 8) rfl
        have c9 : wr.cell? ⟨b, n * 11 + 9, none⟩ = some (.slice e.v.gone.a e.v.gone.n e.v.gone.c) := OwnAt.ent hO he (j := 9) rfl
        have c10 : wr.cell? ⟨b, n * 11 + 10, none⟩ = some (.int .i64 e.v.site) := OwnAt.ent hO he (j := 10) rfl
        have MAY := Lib.hid (may_grew (x := e.v) Q1.out.head (owns_slAt (E := dotE) Q1.out.vec) EM.at_.deps (by have := Q1.out.vlen; omega) (by have := EM.len; omega))
        have HE := Lib.hid he
        have OK := Lib.hid EM.ok
        clear he hO EM hg
        by_cases hcan : Ent.can s'.V e.v.dot e.D
        case neg =>
          rw [decide_eq_false hcan] at MAY
          have CAN := Lib.hid hcan
          clear hcan
          go_wp2_with (go_at_call 42; refine MAY.out.mono ?_; rintro r w1 ⟨rfl, hg1⟩)
          go_roundw
          case rel =>
            refine ⟨n + 1, by go_num, by omega, fun e2 he2 => ?_, GR.out.trans hg1⟩
            rw [List.take_add_one, HE.out] at he2
            rcases List.mem_append.1 he2 with he2 | he2
            · exact NONE.out e2 he2
            · obtain rfl : e2 = e := by simpa using he2
              exact CAN.out
          case measure => simp [intOf] <;> omega
        case pos =>
          rw [decide_eq_true hcan] at MAY
          have CAN := Lib.hid hcan
          have ADD := Lib.hid (add_can OK.out hcan)
          clear hcan
          go_upto_region 22 with (go_at_call 42; refine MAY.out.mono ?_; rintro r w1 ⟨rfl, hg1⟩)
          have Q2 := Lib.hid (Q1.out.kept hg1.kept)
          have K2 := Lib.hid (K1.out.trans hg1.kept (fun _ _ h => h.elim))
          have zr1 := Nat.le_trans GR.out.kept.size hg1.kept.size
          clear c0 c1 c2 c3 c4 c5 c6 c7 c8 c9 c10 q2 hg1 MAY
          obtain ⟨hl0, ⟨_, hno⟩ | ⟨b', cap', hv, hz0, hO⟩⟩ := own_of (E := entE) Q2.out.wait
          · rw [hno] at hlt; simp at hlt
          injection hv with ha6 hl6 hc6
          injection ha6 with ha6
          injection ha6 with ha6
          subst ha6 hc6
          clear hl0 hz0 hl6
          have GN := Lib.hid (gone_any Q2.out.head hO HE.out (by have := Q2.out.wlen; omega))
          clear hO
          go_wp2_with (first
            | (go_at_call 45; refine GN.out.mono ?_; rintro r w3 ⟨rfl, h1, hO3, hk3⟩
               obtain ⟨QG, kG⟩ := Q2.out.goneAt hlt h1 hO3 hk3
               have QG := Lib.hid QG
               have kG := Lib.hid kG
               have E3 := Lib.hid ((Q2.out.ents e (List.mem_append.2 (.inl (List.mem_of_getElem? HE.out)))).keep kG.out Q2.out.spares)
               clear h1 hO3 hk3
               have HDEL := Lib.hid (deliver_any (e := e) QG.out.head (owns_slAt (E := dotE) QG.out.vec) (by have := QG.out.vlen; omega) QG.out.out (by have := QG.out.olen; omega) ADD.out))
            | (go_at_call 46; refine HDEL.out.mono ?_; rintro r w4 ⟨rfl, v', ov', h1, hv, hO, hb, hk⟩))
          go_step3
          have QG2 := QG.out
          obtain ⟨QD, KD⟩ := QG2.delivered E3.out h1 hv hO hb hk (by show s'.O.length + 1 ≤ 500000; have := L2.out; omega)
          have hel : (s'.W.eraseIdx n).length + 1 = s'.W.length := by rw [List.length_eraseIdx, if_pos hlt]; omega
          have z2 := K2.out.size
          have z3 := kG.out.size
          have KA := K2.out.trans kG.out (fun b hb h => h.low K2.out hb)
          have KB := KA.trans KD (fun b hb h => h.low KA hb)
          have QN : QAt w4 g hold (s'.take n e) (fun b => F b ∨ w.heap.size ≤ b) _ _ _ := QD.wider (fun b h => h.elim id (fun h => .inr (by omega)))
          have hM2 := qM_eq QN
          refine ⟨⟨rfl, s'.take n e, _, _, _, d, z, fr95 g _ _ _ _ _ _ _ _ _ _ _ _ _ _ _ _ _ _ _ _ _ _ _ _ _ _ _ _ _ _ _ _ _ _ _ _ _ _ _ _ _ _ _ _ _ _ _ _ _ _ _ _ _ _ _ _ _ _ _ _ _ _ _ _ _ _ _ _ _ _ _ _ _ _ _ _ _ _ _ _ _ _ _ _ _ _ _ _ _ _ _ _ _ _, QN, rfl, NO.out, NC.out, ?_, ?_, ?_, KB, ⟨FR.out.1, FR.out.2.1, .inr (fun b hb => ⟨by have := owns_new hv b hb; omega, fun e => by have := owns_new hv b hb; have := DLT.out b e; omega⟩)⟩, fun b hb => by have := DLT.out b hb; have := KD.size; omega⟩, ?_⟩
          · rw [← DR.out]
            exact (drain_some (n := s'.W.length - 1) (by omega) HE.out CAN.out NONE.out).symm
          · show (s'.W.eraseIdx n).length ≤ _
            have := L1.out
            omega
          · show (s'.O ++ [e]).length + (s'.W.eraseIdx n).length = _
            have := L2.out
            rw [List.length_append, List.length_singleton]
            omega
          · rw [hM2, hMx.out]
            show (s'.W.eraseIdx n).length < _
            omega
end Go.Proofs.YtaaeomapbigfgaaGreat
