/- hearsaylaw6.StampLays returns true at every two rows of items whose bulk is at most the bound, and what there was reads as before. -/
import Derived.Test.YtdbnohlignpeaaaStPair
import Derived.Test.YtdbnohlignpeaaaStKnown
import Derived.Test.YtdbnohlignpeaaaRows
import Derived.WalkKit
import Derived.ProofKit
import Derived.OpenShut
import Derived.ShutString
import Derived.ChangeOld
import Derived.Below
import Derived.StillTailTactics
import Derived.JoinedCond
namespace Go.Proofs.Ytdbnohlignpeaaa
open Go.RowKit Go.Proofs.Ytdbnohlignpeaaa.St
namespace stampLays
def Rel (w : World) (L M : List St.Item) (n : Nat) (wr : World) : Prop :=
  ∃ F1 F2 v1 v2, Pair wr w.heap.size w.heap.size (w.heap.size + 1 + 1) (stN L n) (stN L n) F1 v1 ∧ Pair wr w.heap.size (w.heap.size + 1) (w.heap.size + 1 + 1 + 1) (stN M n) (stN M n) F2 v2 ∧
    (∀ b, Foot (w.heap.size + 1 + 1) F1 v1 b → ¬ Foot (w.heap.size + 1 + 1 + 1) F2 v2 b) ∧ Kept (fun _ => False) w wr
theorem Rel.kept {w : World} {L M : List St.Item} {n : Nat} {wr wr' : World} (h : Rel w L M n wr) (hk : Kept (fun _ => False) wr wr') : Rel w L M n wr' := by
  obtain ⟨F1, F2, v1, v2, h1, h2, h3, h4⟩ := h
  exact ⟨F1, F2, v1, v2, h1.kept hk, h2.kept hk, h3, h4.trans hk (fun _ _ h => h)⟩
theorem start (w : World) (L M : List St.Item) : Rel w L M 0 ((((w.alloc (.cells #[.slice none 0 0, .int .i64 0] 46)).alloc (.cells #[.slice none 0 0, .int .i64 0] 46)).alloc (.cells #[.slice none 0 0, .int .i64 0] 56)).alloc (.cells #[.slice none 0 0, .int .i64 0] 56)) := by
  have b1 := (((Blk.new w 46 #[.slice none 0 0, .int .i64 0]).alloc (.cells #[.slice none 0 0, .int .i64 0] 46)).alloc (.cells #[.slice none 0 0, .int .i64 0] 56)).alloc (.cells #[.slice none 0 0, .int .i64 0] 56)
  have b2 := ((Blk.new (w.alloc (.cells #[.slice none 0 0, .int .i64 0] 46)) 46 #[.slice none 0 0, .int .i64 0]).alloc (.cells #[.slice none 0 0, .int .i64 0] 56)).alloc (.cells #[.slice none 0 0, .int .i64 0] 56)
  have b3 := (Blk.new ((w.alloc (.cells #[.slice none 0 0, .int .i64 0] 46)).alloc (.cells #[.slice none 0 0, .int .i64 0] 46)) 56 #[.slice none 0 0, .int .i64 0]).alloc (.cells #[.slice none 0 0, .int .i64 0] 56)
  have b4 := Blk.new (((w.alloc (.cells #[.slice none 0 0, .int .i64 0] 46)).alloc (.cells #[.slice none 0 0, .int .i64 0] 46)).alloc (.cells #[.slice none 0 0, .int .i64 0] 56)) 56 #[.slice none 0 0, .int .i64 0]
  simp only [World.size_alloc] at b2 b3 b4
  have hlo : ∀ A X b, A < w.heap.size + 4 → X < w.heap.size + 4 → w.heap.size ≤ A → w.heap.size ≤ X → ((b = A ∨ (Value.slice none 0 0).ownBlock = some b) ∨ b = X ∨ (Value.slice none 0 0).ownBlock = some b) → w.heap.size ≤ b ∧ b < w.heap.size + 4 := by
    rintro A X b h1 h2 h3 h4 ((rfl | h) | rfl | h)
    · omega
    · cases h
    · omega
    · cases h
  refine ⟨_, _, .slice none 0 0, .slice none 0 0, ⟨⟨.slice none 0 0, b1, World.ownsRow_nil _ _ _ _, rfl⟩, b3, .inl ⟨rfl, rfl⟩, ?_, (fun b hb => by cases hb), fun b hb => ?_⟩, ⟨⟨.slice none 0 0, b2, World.ownsRow_nil _ _ _ _, rfl⟩, b4, .inl ⟨rfl, rfl⟩, ?_, (fun b hb => by cases hb), fun b hb => ?_⟩, ?_, ((((Kept.refl _ _).alloc _).alloc _).alloc _).alloc _⟩
  · rintro (h | h)
    · omega
    · cases h
  · have := hlo _ _ b (by omega) (by omega) (by omega) (by omega) hb
    simp only [World.size_alloc]
    omega
  · rintro (h | h)
    · omega
    · cases h
  · have := hlo _ _ b (by omega) (by omega) (by omega) (by omega) hb
    simp only [World.size_alloc]
    omega
  · rintro b ((rfl | h) | rfl | h) ((h' | h') | h' | h')
    all_goals first | omega | (cases h; done) | (cases h'; done)
set_option maxRecDepth 100000 in
set_option maxHeartbeats 4000000 in
theorem walk_core {w : World} {v u : Value} {L M : List St.Item} (h : SlAt itemE w v L) (hin : ∀ x ∈ L, I64 x.n) (h2 : SlAt itemE w u M) (hin2 : ∀ x ∈ M, I64 x.n) :
    Calls Try.prog 7 #[v, u] w fun e w' => e = .returned (.bool true) ∧ Kept (fun _ => False) w w' := by
  have hm1 := much_any h none 0 0
  have hm2 := much_any h2 none 0 0
  obtain ⟨a, c, rfl, hac, hcm⟩ := h.sl
  obtain ⟨a', c', rfl, hac', hcm'⟩ := h2.sl
  have HS := Lib.hid h
  have H2 := Lib.hid h2
  have HI := Lib.hid hin
  have HA := Lib.hid hin2
  have M1 := Lib.hid hm1
  have M2 := Lib.hid hm2
  clear h h2 hin hin2 hm1 hm2 hac hcm hac' hcm'
  go_enter Try.func7, Try.ntmps7
  go_wp2_with fail
  refine M1.out.mono ?_
  rintro e w' ⟨r1, rfl, hr1, hw⟩
  obtain rfl := hw.symm
  clear hw
  cases r1 with
  | true =>
    clear hr1
    go_wp2_with fail
    refine (known_any _).mono ?_
    rintro e w1 ⟨rfl, hk⟩
    go_wp2_with fail
    go_ret
    exact ⟨rfl, hk⟩
  | false =>
    have SL := Lib.hid (hr1 rfl)
    clear hr1
    go_wp2_with fail
    refine M2.out.mono ?_
    rintro e w' ⟨r2, rfl, hr2, hw⟩
    obtain rfl := hw.symm
    clear hw
    cases r2 with
    | true =>
      clear hr2
      go_wp2_with fail
      refine (known_any _).mono ?_
      rintro e w1 ⟨rfl, hk⟩
      go_wp2_with fail
      go_ret
      exact ⟨rfl, hk⟩
    | false =>
      have SM := Lib.hid (hr2 rfl)
      clear hr2 M1 M2
      have hLn : (L.length : Int) ≤ 400 := by have := SL.out.1; omega
      have hMn : (M.length : Int) ≤ 400 := by have := SM.out.1; omega
      go_wp2_with fail
      go_loopw [9] (fun iv wr => ∃ n : Nat, iv = .int .i64 n ∧ n ≤ L.length + M.length ∧ Rel w L M n wr) (fun iv _ => L.length + M.length - (intOf iv).toNat)
      case atStart =>
        exact ⟨0, rfl, Nat.zero_le _, start w L M⟩
      case round =>
        obtain ⟨n, rfl, hn, F1, F2, v1, v2, hP1, hP2, hD, hk⟩ := hrel
        have hn0 : (0 : Int) ≤ n := by omega
        have hn8 : (n : Int) ≤ 800 := by omega
        by_cases h1 : n < L.length
        case pos =>
          by_cases h2 : n < M.length
          case pos =>
            obtain ⟨x1, hx1⟩ := get_of_lt h1
            obtain ⟨g1, o1, ci1, hv, hglt1, hcs⟩ := SlAt.item HS.out (by omega)
            cases hv
            have CC1 := Lib.hid (hcs n x1 hx1)
            have hxn1 := HI.out x1 (List.mem_of_getElem? hx1)
            have hxs1 := SL.out.2.2.1 x1 (List.mem_of_getElem? hx1)
            have hsl1 := stN_small HI.out SL.out n
            have hnl1 : (n : Int) < L.length := by omega
            have HX1 := Lib.hid hx1
            obtain ⟨xt1, xn1, xs1⟩ := x1
            have hxq1 : xs1.size ≤ 50000 := hxs1
            clear hx1 hcs
            obtain ⟨x2, hx2⟩ := get_of_lt h2
            obtain ⟨g2, o2, ci2, hv, hglt2, hcs⟩ := SlAt.item H2.out (by omega)
            cases hv
            have CC2 := Lib.hid (hcs n x2 hx2)
            have hxn2 := HA.out x2 (List.mem_of_getElem? hx2)
            have hxs2 := SM.out.2.2.1 x2 (List.mem_of_getElem? hx2)
            have hsl2 := stN_small HA.out SM.out n
            have hnl2 : (n : Int) < M.length := by omega
            have HX2 := Lib.hid hx2
            obtain ⟨xt2, xn2, xs2⟩ := x2
            have hxq2 : xs2.size ≤ 50000 := hxs2
            clear hx2 hcs
            have P1 := Lib.hid hP1
            have P2 := Lib.hid hP2
            have DD := Lib.hid hD
            have KK := Lib.hid hk
            clear hP1 hP2 hD hk
            have d0 := old_cell KK.out CC1.out.1
            have d1 := old_cell KK.out CC1.out.2.1
            have d2 := old_cell KK.out CC1.out.2.2
            have hlay := lay_any P1.out.wr ⟨xt1, xn1, xs1⟩ hxn1 (by show xs1.size ≤ _; omega) (by omega)
            go_wp2_with fail
            refine hlay.mono ?_
            rintro e w1 ⟨rfl, hg⟩
            have hg' := WrGoes.cast (bs' := (stN L (n + 1)).1) (e' := (stN L (n + 1)).2) hg (by rw [stN_succ HX1.out]) (by rw [stN_succ HX1.out])
            obtain ⟨F', hPk, hkF, hft⟩ := P1.out.lay hg'
            have hPo := P2.out.keep hkF (fun b hb hF => DD.out b (.inl hF) hb)
            have hD := fun (b : Nat) (hb : Foot (w.heap.size + 1 + 1) F' v1 b) (hb2 : Foot (w.heap.size + 1 + 1 + 1) _ _ b) => DD.out b (hft b hb (P2.out.lo b hb2).2) hb2
            have hk := KK.out.over hkF (fun b hb => (P1.out.lo b (.inl hb)).1)
            clear d0 d1 d2
            have d0 := old_cell hk CC1.out.1
            have d1 := old_cell hk CC1.out.2.1
            have d2 := old_cell hk CC1.out.2.2
            have hs1 := hPk.sl
            obtain ⟨a1, k1, rfl, _, _⟩ := hs1.sl
            have x0 : _ = some _ := hPk.bx.cell' (i := 0) rfl
            have x1 : _ = some _ := hPk.bx.cell' (i := 1) rfl
            have y0 := hPk.bx.frozen 0
            have y1 := hPk.bx.frozen 1
            have hlaid := laid_any (e := (stN L n).2) (hs1.kept (Kept.refl _ w1).drew) ⟨xt1, xn1, xs1⟩ hxn1 (by show xs1.size ≤ _; omega) (by omega)
            have Q1 := Lib.hid hPk
            have Q2 := Lib.hid hPo
            have QD := Lib.hid hD
            have QK := Lib.hid hk
            clear hg hg' hPk hPo hkF hft hD hk hs1 P1 P2 DD KK hlay
            go_wp2_with fail
            go_still_tail 5, (by kernel_rfl)
            change wpList _ _ _ _ _ w1.drew
            go_wp2_with fail
            refine hlaid.mono ?_
            rintro e w2 ⟨v', rfl, hs2, hk2, hv2⟩
            have hk2' : Kept (fun _ => False) w1 w2 := (Kept.refl _ w1).drew.trans hk2 (fun _ _ h => h)
            have hs2' : SlAt byteE w2 v' (stN L (n + 1)).1 := by rw [stN_succ HX1.out]; exact hs2
            obtain ⟨hPk, hkX, hft⟩ := Q1.out.laid (t' := stN L (n + 1)) hs2' hk2' hv2
            rw [show (stN L (n + 1)).2 = (layI ((stN L n).1, (stN L n).2) ⟨xt1, xn1, xs1⟩).2 by rw [stN_succ HX1.out]] at hPk hkX
            have hPo := Q2.out.keep hkX (fun b hb hX => by have h : b = w.heap.size + 1 + 1 := hX; subst h; exact QD.out _ (.inr (.inl rfl)) hb)
            have hD := fun (b : Nat) (hb : Foot (w.heap.size + 1 + 1) F' v' b) (hb2 : Foot (w.heap.size + 1 + 1 + 1) _ _ b) => QD.out b (hft b hb (Q2.out.lo b hb2).2) hb2
            have hk := QK.out.over hkX (fun b hb => by have h : b = w.heap.size + 1 + 1 := hb; omega)
            have hbk := (Q1.out.kept hk2').bx
            clear x0 x1 y0 y1 d0 d1 d2
            obtain ⟨a2, k2, rfl, _, _⟩ := hs2.sl
            have x0 : _ = some _ := hbk.cell' (i := 0) rfl
            have x1 : _ = some _ := hbk.cell' (i := 1) rfl
            have y0 := hbk.frozen 0
            have y1 := hbk.frozen 1
            generalize (layI ((stN L n).1, (stN L n).2) ⟨xt1, xn1, xs1⟩) = T at *
            clear hs2' hk2' hlaid
            have P1 := Lib.hid hPk
            have P2 := Lib.hid hPo
            have DD := Lib.hid hD
            have KK := Lib.hid hk
            clear hPk hPo hD hk hkX hft hs2 hk2 hv2 hbk Q1 Q2 QD QK
            have d0 := old_cell KK.out CC2.out.1
            have d1 := old_cell KK.out CC2.out.2.1
            have d2 := old_cell KK.out CC2.out.2.2
            have hlay := lay_any P2.out.wr ⟨xt2, xn2, xs2⟩ hxn2 (by show xs2.size ≤ _; omega) (by omega)
            go_wp2_with fail
            refine hlay.mono ?_
            rintro e w1 ⟨rfl, hg⟩
            have hg' := WrGoes.cast (bs' := (stN M (n + 1)).1) (e' := (stN M (n + 1)).2) hg (by rw [stN_succ HX2.out]) (by rw [stN_succ HX2.out])
            obtain ⟨F', hPk, hkF, hft⟩ := P2.out.lay hg'
            have hPo := P1.out.keep hkF (fun b hb hF => DD.out b hb (.inl hF))
            have hD := fun (b : Nat) (hb : Foot (w.heap.size + 1 + 1) _ _ b) (hb2 : Foot (w.heap.size + 1 + 1 + 1) F' v2 b) => DD.out b hb (hft b hb2 (P1.out.lo b hb).2)
            have hk := KK.out.over hkF (fun b hb => (P2.out.lo b (.inl hb)).1)
            clear d0 d1 d2
            have d0 := old_cell hk CC2.out.1
            have d1 := old_cell hk CC2.out.2.1
            have d2 := old_cell hk CC2.out.2.2
            have hs1 := hPk.sl
            obtain ⟨a1, k1, rfl, _, _⟩ := hs1.sl
            have x0 : _ = some _ := hPk.bx.cell' (i := 0) rfl
            have x1 : _ = some _ := hPk.bx.cell' (i := 1) rfl
            have y0 := hPk.bx.frozen 0
            have y1 := hPk.bx.frozen 1
            have hlaid := laid_any (e := (stN M n).2) (hs1.kept (Kept.refl _ w1).drew) ⟨xt2, xn2, xs2⟩ hxn2 (by show xs2.size ≤ _; omega) (by omega)
            have Q2 := Lib.hid hPk
            have Q1 := Lib.hid hPo
            have QD := Lib.hid hD
            have QK := Lib.hid hk
            clear hg hg' hPk hPo hkF hft hD hk hs1 P1 P2 DD KK hlay
            go_wp2_with fail
            go_still_tail 5, (by kernel_rfl)
            change wpList _ _ _ _ _ w1.drew
            go_wp2_with fail
            refine hlaid.mono ?_
            rintro e w2 ⟨v', rfl, hs2, hk2, hv2⟩
            have hk2' : Kept (fun _ => False) w1 w2 := (Kept.refl _ w1).drew.trans hk2 (fun _ _ h => h)
            have hs2' : SlAt byteE w2 v' (stN M (n + 1)).1 := by rw [stN_succ HX2.out]; exact hs2
            obtain ⟨hPk, hkX, hft⟩ := Q2.out.laid (t' := stN M (n + 1)) hs2' hk2' hv2
            rw [show (stN M (n + 1)).2 = (layI ((stN M n).1, (stN M n).2) ⟨xt2, xn2, xs2⟩).2 by rw [stN_succ HX2.out]] at hPk hkX
            have hPo := Q1.out.keep hkX (fun b hb hX => by have h : b = w.heap.size + 1 + 1 + 1 := hX; subst h; exact QD.out _ hb (.inr (.inl rfl)))
            have hD := fun (b : Nat) (hb : Foot (w.heap.size + 1 + 1) _ _ b) (hb2 : Foot (w.heap.size + 1 + 1 + 1) F' v' b) => QD.out b hb (hft b hb2 (Q1.out.lo b hb).2)
            have hk := QK.out.over hkX (fun b hb => by have h : b = w.heap.size + 1 + 1 + 1 := hb; omega)
            have hbk := (Q2.out.kept hk2').bx
            clear x0 x1 y0 y1 d0 d1 d2
            obtain ⟨a2, k2, rfl, _, _⟩ := hs2.sl
            have x0 : _ = some _ := hbk.cell' (i := 0) rfl
            have x1 : _ = some _ := hbk.cell' (i := 1) rfl
            have y0 := hbk.frozen 0
            have y1 := hbk.frozen 1
            generalize (layI ((stN M n).1, (stN M n).2) ⟨xt2, xn2, xs2⟩) = T at *
            clear hs2' hk2' hlaid
            have P2 := Lib.hid hPk
            have P1 := Lib.hid hPo
            have DD := Lib.hid hD
            have KK := Lib.hid hk
            clear hPk hPo hD hk hkX hft hs2 hk2 hv2 hbk Q1 Q2 QD QK
            have hR : Rel w L M (n + 1) _ := ⟨_, _, _, _, P1.out, P2.out, DD.out, KK.out⟩
            clear P1 P2 DD KK
            go_wp2_with fail
            clear x0 x1 y0 y1
            obtain ⟨F1, F2, v1, v2, hP1, hP2, hD, hk⟩ := hR
            obtain ⟨a1, k1, rfl, _, _⟩ := hP1.sl.sl
            obtain ⟨a2, k2, rfl, _, _⟩ := hP2.sl.sl
            have hl1 := stN_small HI.out SL.out (n + 1)
            have hl2 := stN_small HA.out SM.out (n + 1)
            have hRel := Lib.hid (show Rel w L M (n + 1) _ from ⟨_, _, _, _, hP1, hP2, hD, hk⟩)
            generalize stN L (n + 1) = s1 at *
            generalize stN M (n + 1) = s2 at *
            obtain ⟨b1, e1⟩ := s1
            obtain ⟨b2, e2⟩ := s2
            have x0 : _ = some _ := hP1.bx.cell' (i := 0) rfl
            have x1 : _ = some _ := hP1.bx.cell' (i := 1) rfl
            have y0 : _ = some _ := hP2.bx.cell' (i := 0) rfl
            have y1 : _ = some _ := hP2.bx.cell' (i := 1) rfl
            have P1 := Lib.hid hP1
            have P2 := Lib.hid hP2
            have HD1 := Lib.hid (fun w' hk => wdata_any (Pair.kept hP1 (w' := w') hk).wr (show b1.length ≤ 1000000000 by show b1.length ≤ _; have : b1.length ≤ 60000 := hl1; omega))
            have HD2 := Lib.hid (fun w' hk => wdata_any (Pair.kept hP2 (w' := w') hk).wr (show b2.length ≤ 1000000000 by show b2.length ≤ _; have : b2.length ≤ 60000 := hl2; omega))
            have HE1 := Lib.hid (fun w' hk => werr_any (Pair.kept hP1 (w' := w') hk).wr)
            have HE2 := Lib.hid (fun w' hk => werr_any (Pair.kept hP2 (w' := w') hk).wr)
            have HB1 := Lib.hid (fun w' hk u hu => bytes_same (u := u) hu (Pair.kept hP1 (w' := w') hk).sl (show b1.length ≤ 1000000000 by show b1.length ≤ _; have : b1.length ≤ 60000 := hl1; omega))
            have HB2 := Lib.hid (fun w' hk u hu => bytes_same (u := u) hu (Pair.kept hP2 (w' := w') hk).sl (show b2.length ≤ 1000000000 by show b2.length ≤ _; have : b2.length ≤ 60000 := hl2; omega))
            have hkk := Pair.self hP1
            have hee1 : (e1 != e1) = false := by simp
            have hee2 : (e2 != e2) = false := by simp
            clear hP1 hP2 hD hk P1 P2
            go_region_held3 (fun w' => w'.cell? ⟨w.heap.size + 1 + 1, 0, none⟩ = some (.slice a1 b1.length k1) ∧ w'.cell? ⟨w.heap.size + 1 + 1, 1, none⟩ = some (.int .i64 e1) ∧ w'.cell? ⟨w.heap.size + 1 + 1 + 1, 0, none⟩ = some (.slice a2 b2.length k2) ∧ w'.cell? ⟨w.heap.size + 1 + 1 + 1, 1, none⟩ = some (.int .i64 e2)) (first | exact ⟨x0, x1, y0, y1⟩)
              (first
                | (go_simp; go_at_call 31; (with_reducible refine (HE2.out _ hkk).mono ?_); rintro e' w5 ⟨rfl, rfl⟩)
                | (go_simp; go_at_call 29; (with_reducible refine (HB2.out _ hkk _ S6).mono ?_); rintro e' w5 ⟨rfl, q, rfl⟩; have hk5 := (Kept.refl (fun _ => False) w5).drewN q; have x0 := old_cell hk5 x0; have x1 := old_cell hk5 x1; have y0 := old_cell hk5 y0; have y1 := old_cell hk5 y1; have hkk := hkk.drewN q; clear hk5 S6)
                | (go_simp; go_at_call 28; (with_reducible refine (HD2.out _ hkk).mono ?_); rintro e' w5 ⟨v5, rfl, ho5, hk5⟩; have x0 := old_cell hk5 x0; have x1 := old_cell hk5 x1; have y0 := old_cell hk5 y0; have y1 := old_cell hk5 y1; have hkk := hkk.trans hk5 (fun _ _ h => h); have S6 := owns_slAt (E := byteE) ho5; obtain ⟨a5, c5, rfl⟩ := owns_sl ho5; clear hk5 ho5)
                | (go_simp; go_at_call 31; (with_reducible refine (HE1.out _ hkk).mono ?_); rintro e' w5 ⟨rfl, rfl⟩)
                | (go_simp; go_at_call 29; (with_reducible refine (HB1.out _ hkk _ S5).mono ?_); rintro e' w5 ⟨rfl, q, rfl⟩; have hk5 := (Kept.refl (fun _ => False) w5).drewN q; have x0 := old_cell hk5 x0; have x1 := old_cell hk5 x1; have y0 := old_cell hk5 y0; have y1 := old_cell hk5 y1; have hkk := hkk.drewN q; clear hk5 S5)
                | (go_simp; go_at_call 28; (with_reducible refine (HD1.out _ hkk).mono ?_); rintro e' w5 ⟨v5, rfl, ho5, hk5⟩; have x0 := old_cell hk5 x0; have x1 := old_cell hk5 x1; have y0 := old_cell hk5 y0; have y1 := old_cell hk5 y1; have hkk := hkk.trans hk5 (fun _ _ h => h); have S5 := owns_slAt (E := byteE) ho5; obtain ⟨a5, c5, rfl⟩ := owns_sl ho5; clear hk5 ho5))
            go_wp2_with fail
            go_roundw
            case rel => exact ⟨n + 1, by go_num, by omega, hRel.out.kept hkk⟩
            case measure => simp [intOf] <;> omega
          case neg =>
            obtain ⟨x1, hx1⟩ := get_of_lt h1
            obtain ⟨g1, o1, ci1, hv, hglt1, hcs⟩ := SlAt.item HS.out (by omega)
            cases hv
            have CC1 := Lib.hid (hcs n x1 hx1)
            have hxn1 := HI.out x1 (List.mem_of_getElem? hx1)
            have hxs1 := SL.out.2.2.1 x1 (List.mem_of_getElem? hx1)
            have hsl1 := stN_small HI.out SL.out n
            have hnl1 : (n : Int) < L.length := by omega
            have HX1 := Lib.hid hx1
            obtain ⟨xt1, xn1, xs1⟩ := x1
            have hxq1 : xs1.size ≤ 50000 := hxs1
            clear hx1 hcs
            have hn2 : ¬ (n : Int) < M.length := by omega
            have P1 := Lib.hid hP1
            have P2 := Lib.hid hP2
            have DD := Lib.hid hD
            have KK := Lib.hid hk
            clear hP1 hP2 hD hk
            have d0 := old_cell KK.out CC1.out.1
            have d1 := old_cell KK.out CC1.out.2.1
            have d2 := old_cell KK.out CC1.out.2.2
            have hlay := lay_any P1.out.wr ⟨xt1, xn1, xs1⟩ hxn1 (by show xs1.size ≤ _; omega) (by omega)
            go_wp2_with fail
            refine hlay.mono ?_
            rintro e w1 ⟨rfl, hg⟩
            have hg' := WrGoes.cast (bs' := (stN L (n + 1)).1) (e' := (stN L (n + 1)).2) hg (by rw [stN_succ HX1.out]) (by rw [stN_succ HX1.out])
            obtain ⟨F', hPk, hkF, hft⟩ := P1.out.lay hg'
            have hPo := P2.out.keep hkF (fun b hb hF => DD.out b (.inl hF) hb)
            have hD := fun (b : Nat) (hb : Foot (w.heap.size + 1 + 1) F' v1 b) (hb2 : Foot (w.heap.size + 1 + 1 + 1) _ _ b) => DD.out b (hft b hb (P2.out.lo b hb2).2) hb2
            have hk := KK.out.over hkF (fun b hb => (P1.out.lo b (.inl hb)).1)
            clear d0 d1 d2
            have d0 := old_cell hk CC1.out.1
            have d1 := old_cell hk CC1.out.2.1
            have d2 := old_cell hk CC1.out.2.2
            have hs1 := hPk.sl
            obtain ⟨a1, k1, rfl, _, _⟩ := hs1.sl
            have x0 : _ = some _ := hPk.bx.cell' (i := 0) rfl
            have x1 : _ = some _ := hPk.bx.cell' (i := 1) rfl
            have y0 := hPk.bx.frozen 0
            have y1 := hPk.bx.frozen 1
            have hlaid := laid_any (e := (stN L n).2) (hs1.kept (Kept.refl _ w1).drew) ⟨xt1, xn1, xs1⟩ hxn1 (by show xs1.size ≤ _; omega) (by omega)
            have Q1 := Lib.hid hPk
            have Q2 := Lib.hid hPo
            have QD := Lib.hid hD
            have QK := Lib.hid hk
            clear hg hg' hPk hPo hkF hft hD hk hs1 P1 P2 DD KK hlay
            go_wp2_with fail
            go_still_tail 5, (by kernel_rfl)
            change wpList _ _ _ _ _ w1.drew
            go_wp2_with fail
            refine hlaid.mono ?_
            rintro e w2 ⟨v', rfl, hs2, hk2, hv2⟩
            have hk2' : Kept (fun _ => False) w1 w2 := (Kept.refl _ w1).drew.trans hk2 (fun _ _ h => h)
            have hs2' : SlAt byteE w2 v' (stN L (n + 1)).1 := by rw [stN_succ HX1.out]; exact hs2
            obtain ⟨hPk, hkX, hft⟩ := Q1.out.laid (t' := stN L (n + 1)) hs2' hk2' hv2
            rw [show (stN L (n + 1)).2 = (layI ((stN L n).1, (stN L n).2) ⟨xt1, xn1, xs1⟩).2 by rw [stN_succ HX1.out]] at hPk hkX
            have hPo := Q2.out.keep hkX (fun b hb hX => by have h : b = w.heap.size + 1 + 1 := hX; subst h; exact QD.out _ (.inr (.inl rfl)) hb)
            have hD := fun (b : Nat) (hb : Foot (w.heap.size + 1 + 1) F' v' b) (hb2 : Foot (w.heap.size + 1 + 1 + 1) _ _ b) => QD.out b (hft b hb (Q2.out.lo b hb2).2) hb2
            have hk := QK.out.over hkX (fun b hb => by have h : b = w.heap.size + 1 + 1 := hb; omega)
            have hbk := (Q1.out.kept hk2').bx
            clear x0 x1 y0 y1 d0 d1 d2
            obtain ⟨a2, k2, rfl, _, _⟩ := hs2.sl
            have x0 : _ = some _ := hbk.cell' (i := 0) rfl
            have x1 : _ = some _ := hbk.cell' (i := 1) rfl
            have y0 := hbk.frozen 0
            have y1 := hbk.frozen 1
            generalize (layI ((stN L n).1, (stN L n).2) ⟨xt1, xn1, xs1⟩) = T at *
            clear hs2' hk2' hlaid
            have P1 := Lib.hid hPk
            have P2 := Lib.hid hPo
            have DD := Lib.hid hD
            have KK := Lib.hid hk
            clear hPk hPo hD hk hkX hft hs2 hk2 hv2 hbk Q1 Q2 QD QK
            have hR : Rel w L M (n + 1) _ := ⟨_, _, _, _, P1.out, (by rw [stN_ge (L := M) (by omega)]; exact P2.out), DD.out, KK.out⟩
            clear P1 P2 DD KK
            go_wp2_with fail
            clear x0 x1 y0 y1
            obtain ⟨F1, F2, v1, v2, hP1, hP2, hD, hk⟩ := hR
            obtain ⟨a1, k1, rfl, _, _⟩ := hP1.sl.sl
            obtain ⟨a2, k2, rfl, _, _⟩ := hP2.sl.sl
            have hl1 := stN_small HI.out SL.out (n + 1)
            have hl2 := stN_small HA.out SM.out (n + 1)
            have hRel := Lib.hid (show Rel w L M (n + 1) _ from ⟨_, _, _, _, hP1, hP2, hD, hk⟩)
            generalize stN L (n + 1) = s1 at *
            generalize stN M (n + 1) = s2 at *
            obtain ⟨b1, e1⟩ := s1
            obtain ⟨b2, e2⟩ := s2
            have x0 : _ = some _ := hP1.bx.cell' (i := 0) rfl
            have x1 : _ = some _ := hP1.bx.cell' (i := 1) rfl
            have y0 : _ = some _ := hP2.bx.cell' (i := 0) rfl
            have y1 : _ = some _ := hP2.bx.cell' (i := 1) rfl
            have P1 := Lib.hid hP1
            have P2 := Lib.hid hP2
            have HD1 := Lib.hid (fun w' hk => wdata_any (Pair.kept hP1 (w' := w') hk).wr (show b1.length ≤ 1000000000 by show b1.length ≤ _; have : b1.length ≤ 60000 := hl1; omega))
            have HD2 := Lib.hid (fun w' hk => wdata_any (Pair.kept hP2 (w' := w') hk).wr (show b2.length ≤ 1000000000 by show b2.length ≤ _; have : b2.length ≤ 60000 := hl2; omega))
            have HE1 := Lib.hid (fun w' hk => werr_any (Pair.kept hP1 (w' := w') hk).wr)
            have HE2 := Lib.hid (fun w' hk => werr_any (Pair.kept hP2 (w' := w') hk).wr)
            have HB1 := Lib.hid (fun w' hk u hu => bytes_same (u := u) hu (Pair.kept hP1 (w' := w') hk).sl (show b1.length ≤ 1000000000 by show b1.length ≤ _; have : b1.length ≤ 60000 := hl1; omega))
            have HB2 := Lib.hid (fun w' hk u hu => bytes_same (u := u) hu (Pair.kept hP2 (w' := w') hk).sl (show b2.length ≤ 1000000000 by show b2.length ≤ _; have : b2.length ≤ 60000 := hl2; omega))
            have hkk := Pair.self hP1
            have hee1 : (e1 != e1) = false := by simp
            have hee2 : (e2 != e2) = false := by simp
            clear hP1 hP2 hD hk P1 P2
            go_region_held3 (fun w' => w'.cell? ⟨w.heap.size + 1 + 1, 0, none⟩ = some (.slice a1 b1.length k1) ∧ w'.cell? ⟨w.heap.size + 1 + 1, 1, none⟩ = some (.int .i64 e1) ∧ w'.cell? ⟨w.heap.size + 1 + 1 + 1, 0, none⟩ = some (.slice a2 b2.length k2) ∧ w'.cell? ⟨w.heap.size + 1 + 1 + 1, 1, none⟩ = some (.int .i64 e2)) (first | exact ⟨x0, x1, y0, y1⟩)
              (first
                | (go_simp; go_at_call 31; (with_reducible refine (HE2.out _ hkk).mono ?_); rintro e' w5 ⟨rfl, rfl⟩)
                | (go_simp; go_at_call 29; (with_reducible refine (HB2.out _ hkk _ S6).mono ?_); rintro e' w5 ⟨rfl, q, rfl⟩; have hk5 := (Kept.refl (fun _ => False) w5).drewN q; have x0 := old_cell hk5 x0; have x1 := old_cell hk5 x1; have y0 := old_cell hk5 y0; have y1 := old_cell hk5 y1; have hkk := hkk.drewN q; clear hk5 S6)
                | (go_simp; go_at_call 28; (with_reducible refine (HD2.out _ hkk).mono ?_); rintro e' w5 ⟨v5, rfl, ho5, hk5⟩; have x0 := old_cell hk5 x0; have x1 := old_cell hk5 x1; have y0 := old_cell hk5 y0; have y1 := old_cell hk5 y1; have hkk := hkk.trans hk5 (fun _ _ h => h); have S6 := owns_slAt (E := byteE) ho5; obtain ⟨a5, c5, rfl⟩ := owns_sl ho5; clear hk5 ho5)
                | (go_simp; go_at_call 31; (with_reducible refine (HE1.out _ hkk).mono ?_); rintro e' w5 ⟨rfl, rfl⟩)
                | (go_simp; go_at_call 29; (with_reducible refine (HB1.out _ hkk _ S5).mono ?_); rintro e' w5 ⟨rfl, q, rfl⟩; have hk5 := (Kept.refl (fun _ => False) w5).drewN q; have x0 := old_cell hk5 x0; have x1 := old_cell hk5 x1; have y0 := old_cell hk5 y0; have y1 := old_cell hk5 y1; have hkk := hkk.drewN q; clear hk5 S5)
                | (go_simp; go_at_call 28; (with_reducible refine (HD1.out _ hkk).mono ?_); rintro e' w5 ⟨v5, rfl, ho5, hk5⟩; have x0 := old_cell hk5 x0; have x1 := old_cell hk5 x1; have y0 := old_cell hk5 y0; have y1 := old_cell hk5 y1; have hkk := hkk.trans hk5 (fun _ _ h => h); have S5 := owns_slAt (E := byteE) ho5; obtain ⟨a5, c5, rfl⟩ := owns_sl ho5; clear hk5 ho5))
            go_wp2_with fail
            go_roundw
            case rel => exact ⟨n + 1, by go_num, by omega, hRel.out.kept hkk⟩
            case measure => simp [intOf] <;> omega
        case neg =>
          by_cases h2 : n < M.length
          case pos =>
            obtain ⟨x2, hx2⟩ := get_of_lt h2
            obtain ⟨g2, o2, ci2, hv, hglt2, hcs⟩ := SlAt.item H2.out (by omega)
            cases hv
            have CC2 := Lib.hid (hcs n x2 hx2)
            have hxn2 := HA.out x2 (List.mem_of_getElem? hx2)
            have hxs2 := SM.out.2.2.1 x2 (List.mem_of_getElem? hx2)
            have hsl2 := stN_small HA.out SM.out n
            have hnl2 : (n : Int) < M.length := by omega
            have HX2 := Lib.hid hx2
            obtain ⟨xt2, xn2, xs2⟩ := x2
            have hxq2 : xs2.size ≤ 50000 := hxs2
            clear hx2 hcs
            have hn1 : ¬ (n : Int) < L.length := by omega
            have P1 := Lib.hid hP1
            have P2 := Lib.hid hP2
            have DD := Lib.hid hD
            have KK := Lib.hid hk
            clear hP1 hP2 hD hk
            have d0 := old_cell KK.out CC2.out.1
            have d1 := old_cell KK.out CC2.out.2.1
            have d2 := old_cell KK.out CC2.out.2.2
            have hlay := lay_any P2.out.wr ⟨xt2, xn2, xs2⟩ hxn2 (by show xs2.size ≤ _; omega) (by omega)
            go_wp2_with fail
            refine hlay.mono ?_
            rintro e w1 ⟨rfl, hg⟩
            have hg' := WrGoes.cast (bs' := (stN M (n + 1)).1) (e' := (stN M (n + 1)).2) hg (by rw [stN_succ HX2.out]) (by rw [stN_succ HX2.out])
            obtain ⟨F', hPk, hkF, hft⟩ := P2.out.lay hg'
            have hPo := P1.out.keep hkF (fun b hb hF => DD.out b hb (.inl hF))
            have hD := fun (b : Nat) (hb : Foot (w.heap.size + 1 + 1) _ _ b) (hb2 : Foot (w.heap.size + 1 + 1 + 1) F' v2 b) => DD.out b hb (hft b hb2 (P1.out.lo b hb).2)
            have hk := KK.out.over hkF (fun b hb => (P2.out.lo b (.inl hb)).1)
            clear d0 d1 d2
            have d0 := old_cell hk CC2.out.1
            have d1 := old_cell hk CC2.out.2.1
            have d2 := old_cell hk CC2.out.2.2
            have hs1 := hPk.sl
            obtain ⟨a1, k1, rfl, _, _⟩ := hs1.sl
            have x0 : _ = some _ := hPk.bx.cell' (i := 0) rfl
            have x1 : _ = some _ := hPk.bx.cell' (i := 1) rfl
            have y0 := hPk.bx.frozen 0
            have y1 := hPk.bx.frozen 1
            have hlaid := laid_any (e := (stN M n).2) (hs1.kept (Kept.refl _ w1).drew) ⟨xt2, xn2, xs2⟩ hxn2 (by show xs2.size ≤ _; omega) (by omega)
            have Q2 := Lib.hid hPk
            have Q1 := Lib.hid hPo
            have QD := Lib.hid hD
            have QK := Lib.hid hk
            clear hg hg' hPk hPo hkF hft hD hk hs1 P1 P2 DD KK hlay
            go_wp2_with fail
            go_still_tail 5, (by kernel_rfl)
            change wpList _ _ _ _ _ w1.drew
            go_wp2_with fail
            refine hlaid.mono ?_
            rintro e w2 ⟨v', rfl, hs2, hk2, hv2⟩
            have hk2' : Kept (fun _ => False) w1 w2 := (Kept.refl _ w1).drew.trans hk2 (fun _ _ h => h)
            have hs2' : SlAt byteE w2 v' (stN M (n + 1)).1 := by rw [stN_succ HX2.out]; exact hs2
            obtain ⟨hPk, hkX, hft⟩ := Q2.out.laid (t' := stN M (n + 1)) hs2' hk2' hv2
            rw [show (stN M (n + 1)).2 = (layI ((stN M n).1, (stN M n).2) ⟨xt2, xn2, xs2⟩).2 by rw [stN_succ HX2.out]] at hPk hkX
            have hPo := Q1.out.keep hkX (fun b hb hX => by have h : b = w.heap.size + 1 + 1 + 1 := hX; subst h; exact QD.out _ hb (.inr (.inl rfl)))
            have hD := fun (b : Nat) (hb : Foot (w.heap.size + 1 + 1) _ _ b) (hb2 : Foot (w.heap.size + 1 + 1 + 1) F' v' b) => QD.out b hb (hft b hb2 (Q1.out.lo b hb).2)
            have hk := QK.out.over hkX (fun b hb => by have h : b = w.heap.size + 1 + 1 + 1 := hb; omega)
            have hbk := (Q2.out.kept hk2').bx
            clear x0 x1 y0 y1 d0 d1 d2
            obtain ⟨a2, k2, rfl, _, _⟩ := hs2.sl
            have x0 : _ = some _ := hbk.cell' (i := 0) rfl
            have x1 : _ = some _ := hbk.cell' (i := 1) rfl
            have y0 := hbk.frozen 0
            have y1 := hbk.frozen 1
            generalize (layI ((stN M n).1, (stN M n).2) ⟨xt2, xn2, xs2⟩) = T at *
            clear hs2' hk2' hlaid
            have P2 := Lib.hid hPk
            have P1 := Lib.hid hPo
            have DD := Lib.hid hD
            have KK := Lib.hid hk
            clear hPk hPo hD hk hkX hft hs2 hk2 hv2 hbk Q1 Q2 QD QK
            have hR : Rel w L M (n + 1) _ := ⟨_, _, _, _, (by rw [stN_ge (L := L) (by omega)]; exact P1.out), P2.out, DD.out, KK.out⟩
            clear P1 P2 DD KK
            go_wp2_with fail
            clear x0 x1 y0 y1
            obtain ⟨F1, F2, v1, v2, hP1, hP2, hD, hk⟩ := hR
            obtain ⟨a1, k1, rfl, _, _⟩ := hP1.sl.sl
            obtain ⟨a2, k2, rfl, _, _⟩ := hP2.sl.sl
            have hl1 := stN_small HI.out SL.out (n + 1)
            have hl2 := stN_small HA.out SM.out (n + 1)
            have hRel := Lib.hid (show Rel w L M (n + 1) _ from ⟨_, _, _, _, hP1, hP2, hD, hk⟩)
            generalize stN L (n + 1) = s1 at *
            generalize stN M (n + 1) = s2 at *
            obtain ⟨b1, e1⟩ := s1
            obtain ⟨b2, e2⟩ := s2
            have x0 : _ = some _ := hP1.bx.cell' (i := 0) rfl
            have x1 : _ = some _ := hP1.bx.cell' (i := 1) rfl
            have y0 : _ = some _ := hP2.bx.cell' (i := 0) rfl
            have y1 : _ = some _ := hP2.bx.cell' (i := 1) rfl
            have P1 := Lib.hid hP1
            have P2 := Lib.hid hP2
            have HD1 := Lib.hid (fun w' hk => wdata_any (Pair.kept hP1 (w' := w') hk).wr (show b1.length ≤ 1000000000 by show b1.length ≤ _; have : b1.length ≤ 60000 := hl1; omega))
            have HD2 := Lib.hid (fun w' hk => wdata_any (Pair.kept hP2 (w' := w') hk).wr (show b2.length ≤ 1000000000 by show b2.length ≤ _; have : b2.length ≤ 60000 := hl2; omega))
            have HE1 := Lib.hid (fun w' hk => werr_any (Pair.kept hP1 (w' := w') hk).wr)
            have HE2 := Lib.hid (fun w' hk => werr_any (Pair.kept hP2 (w' := w') hk).wr)
            have HB1 := Lib.hid (fun w' hk u hu => bytes_same (u := u) hu (Pair.kept hP1 (w' := w') hk).sl (show b1.length ≤ 1000000000 by show b1.length ≤ _; have : b1.length ≤ 60000 := hl1; omega))
            have HB2 := Lib.hid (fun w' hk u hu => bytes_same (u := u) hu (Pair.kept hP2 (w' := w') hk).sl (show b2.length ≤ 1000000000 by show b2.length ≤ _; have : b2.length ≤ 60000 := hl2; omega))
            have hkk := Pair.self hP1
            have hee1 : (e1 != e1) = false := by simp
            have hee2 : (e2 != e2) = false := by simp
            clear hP1 hP2 hD hk P1 P2
            go_region_held3 (fun w' => w'.cell? ⟨w.heap.size + 1 + 1, 0, none⟩ = some (.slice a1 b1.length k1) ∧ w'.cell? ⟨w.heap.size + 1 + 1, 1, none⟩ = some (.int .i64 e1) ∧ w'.cell? ⟨w.heap.size + 1 + 1 + 1, 0, none⟩ = some (.slice a2 b2.length k2) ∧ w'.cell? ⟨w.heap.size + 1 + 1 + 1, 1, none⟩ = some (.int .i64 e2)) (first | exact ⟨x0, x1, y0, y1⟩)
              (first
                | (go_simp; go_at_call 31; (with_reducible refine (HE2.out _ hkk).mono ?_); rintro e' w5 ⟨rfl, rfl⟩)
                | (go_simp; go_at_call 29; (with_reducible refine (HB2.out _ hkk _ S6).mono ?_); rintro e' w5 ⟨rfl, q, rfl⟩; have hk5 := (Kept.refl (fun _ => False) w5).drewN q; have x0 := old_cell hk5 x0; have x1 := old_cell hk5 x1; have y0 := old_cell hk5 y0; have y1 := old_cell hk5 y1; have hkk := hkk.drewN q; clear hk5 S6)
                | (go_simp; go_at_call 28; (with_reducible refine (HD2.out _ hkk).mono ?_); rintro e' w5 ⟨v5, rfl, ho5, hk5⟩; have x0 := old_cell hk5 x0; have x1 := old_cell hk5 x1; have y0 := old_cell hk5 y0; have y1 := old_cell hk5 y1; have hkk := hkk.trans hk5 (fun _ _ h => h); have S6 := owns_slAt (E := byteE) ho5; obtain ⟨a5, c5, rfl⟩ := owns_sl ho5; clear hk5 ho5)
                | (go_simp; go_at_call 31; (with_reducible refine (HE1.out _ hkk).mono ?_); rintro e' w5 ⟨rfl, rfl⟩)
                | (go_simp; go_at_call 29; (with_reducible refine (HB1.out _ hkk _ S5).mono ?_); rintro e' w5 ⟨rfl, q, rfl⟩; have hk5 := (Kept.refl (fun _ => False) w5).drewN q; have x0 := old_cell hk5 x0; have x1 := old_cell hk5 x1; have y0 := old_cell hk5 y0; have y1 := old_cell hk5 y1; have hkk := hkk.drewN q; clear hk5 S5)
                | (go_simp; go_at_call 28; (with_reducible refine (HD1.out _ hkk).mono ?_); rintro e' w5 ⟨v5, rfl, ho5, hk5⟩; have x0 := old_cell hk5 x0; have x1 := old_cell hk5 x1; have y0 := old_cell hk5 y0; have y1 := old_cell hk5 y1; have hkk := hkk.trans hk5 (fun _ _ h => h); have S5 := owns_slAt (E := byteE) ho5; obtain ⟨a5, c5, rfl⟩ := owns_sl ho5; clear hk5 ho5))
            go_wp2_with fail
            go_roundw
            case rel => exact ⟨n + 1, by go_num, by omega, hRel.out.kept hkk⟩
            case measure => simp [intOf] <;> omega
          case neg =>
            have hn1 : ¬ (n : Int) < L.length := by omega
            have hn2 : ¬ (n : Int) < M.length := by omega
            have KK := Lib.hid hk
            clear hP1 hP2 hD hk
            go_wp2_with fail
            refine (known_any _).mono ?_
            rintro e w1 ⟨rfl, hk1⟩
            go_wp2_with fail
            go_ret
            exact ⟨rfl, KK.out.trans hk1 (fun _ _ h => h)⟩
end stampLays
end Go.Proofs.Ytdbnohlignpeaaa
