/- hearsaylaw6.StampTakes, walked. -/
import Derived.Test.YtdbnohlignpeaaaStNothing
import Derived.Test.YtdbnohlignpeaaaStRowApp
namespace Go.Proofs.Ytdbnohlignpeaaa
open Go.RowKit Go.Proofs.Ytdbnohlignpeaaa.St
namespace stampTakes
open Go.Proofs.Ytdbnohlignpeaaa.stampNothing (far_cell)
theorem lit2 (w : World) : SlAt byteE (w.alloc (.cells #[.int .u8 171, .int .u8 172] 5)) (.slice (some ⟨w.heap.size, 0, none⟩) 2 2) [171, 172] := SlAt.lit (E := byteE) [171, 172] _ rfl (by decide)
theorem own_two {w : World} {base n : Nat} {t : TypeId} {v : Value} {S : List UInt8} (h : w.ownsRow base t byteE.k v n (byteE.flat (S ++ [171, 172]))) :
    ∃ g cap, v = .slice (some ⟨g, 0, none⟩) (S.length + 2) cap ∧ base ≤ g ∧ OwnAt byteE w t g cap (S ++ [171, 172]) := by
  obtain ⟨hl, ⟨_, e⟩ | ⟨g, cap, h1, h2, h3⟩⟩ := own_of (E := byteE) h
  · simp at e
  · rw [List.length_append] at hl
    exact ⟨g, cap, by rw [h1, ← hl]; rfl, h2, h3⟩
/-- a Reader at A, the document's in the variable at X, at one place of B -/
def Rel (w : World) (A : Nat) (FR : Nat → Prop) (ub : Option Addr) (uc : Nat) (B : List UInt8) (X : Nat) (wr : World) : Prop :=
  ∃ (p : Nat) (e : Int), p ≤ B.length ∧ RdIs wr A (B.drop p) e FR ∧ Blk wr X 63 #[.slice ub B.length uc, .int .i64 p, .int .i64 e] ∧ Kept (fun _ => False) w wr ∧ ∀ b, FR b → b < wr.heap.size
theorem Rel.kept {w : World} {A : Nat} {FR : Nat → Prop} {ub : Option Addr} {uc : Nat} {B : List UInt8} {X : Nat} {wr wr' : World} (h : Rel w A FR ub uc B X wr) (hk : Kept (fun _ => False) wr wr') : Rel w A FR ub uc B X wr' := by
  obtain ⟨p, e, h0, h1, h2, h3, h4⟩ := h
  exact ⟨p, e, h0, h1.keep hk (fun _ _ _ h => h), hk.blk (fun h => h) h2, h3.trans hk (fun _ _ h => h), fun b hb => Nat.lt_of_lt_of_le (h4 b hb) hk.size⟩
/-- block g is a row of bytes of which those from n on are there -/
def RowFrom (w : World) (g cap n m : Nat) : Prop := ∃ cs, Blk w g 5 cs ∧ cs.size = cap ∧ ∀ j, n ≤ j → j < m → ∃ k : Int, 0 ≤ k ∧ k ≤ 255 ∧ cs[j]? = some (.int .u8 k)
theorem rowFrom_start {w : World} {g cap m : Nat} {D : List UInt8} (h : OwnAt byteE w 5 g cap D) (hm : D.length = m) : RowFrom w g cap 0 m := by
  obtain ⟨cs, h1, h2, h3, h4, h5⟩ := h
  refine ⟨cs, h1, by simpa [byteE] using h2, fun j _ hj => ?_⟩
  obtain ⟨x, hx⟩ := get_of_lt (show j < D.length by omega)
  refine ⟨(x.toNat : Int), by omega, by have := UInt8.toNat_lt x; omega, ?_⟩
  have := h5 j x hx 0 _ rfl
  simpa [byteE] using this
set_option maxRecDepth 100000 in
set_option maxHeartbeats 4000000 in
theorem walk_core {w : World} {u v : Value} {B : List UInt8} {L : List St.Item} (h0 : SlAt byteE w u B) (h : SlAt itemE w v L) (hin : ∀ x ∈ L, I64 x.n) :
    Calls Try.prog 8 #[u, v] w fun e w' => e = .returned (.bool true) ∧ Kept (fun _ => False) w w' := by
  obtain ⟨ub, uc, rfl, hub, hucm⟩ := h0.sl
  have hm1 := much_any h ub B.length uc
  obtain ⟨a, c, rfl, hac, hcm⟩ := h.sl
  have HS := Lib.hid h
  have HB := Lib.hid h0
  have HI := Lib.hid hin
  have M1 := Lib.hid hm1
  clear h h0 hin hm1 hac hcm hub hucm
  go_enter Try.func8, Try.ntmps8
  go_wp2_with fail
  refine M1.out.mono ?_
  rintro e w' ⟨r1, rfl, hr1, hw⟩
  obtain rfl := hw.symm
  clear hw
  cases r1 with
  | true =>
    clear hr1
    go_wp2_with fail
    refine (known_any _).mono ?_
    rintro e w1 ⟨rfl, hk⟩
    go_wp2_with fail
    go_ret
    exact ⟨rfl, hk⟩
  | false =>
    have SL := Lib.hid (hr1 rfl)
    clear hr1 M1
    have hLn : (L.length : Int) ≤ 400 := by have := SL.out.1; omega
    have hBn : B.length ≤ 50000 := SL.out.2.1
    have hBI : (B.length : Int) ≤ 50000 := by omega
    go_wp2_with (first
      | (at_builtin; ((refine wpList_append_row byteE rfl (.tmp 20) (.tmp 21) 44 rfl w.heap.size 5 (.int .u8 0) 1 Try.underlying44 info_u8 rfl rfl rfl (D := B) (L := [171, 172]) (O1.out.alloc _) (lit2 w1) (by unfold maxLen; simp; omega) (by simp; omega) (by simp; have := K1.out.size; omega) ?_); intro v2 w2 ho2 hk20; have hn1 := owns_new O1.out; have hk2 : Kept (fun b => (Value.slice a1 B.length c1).ownBlock = some b) _ w2 := hk20; clear hk20; have K2 := Lib.hid ((K1.out.alloc _).over hk2 (fun b hb => hn1 b hb)); obtain ⟨g, cap, rfl, hg, hO⟩ := own_two ho2; clear hk2 ho2 hn1 O1 K1; have hcap : B.length + 2 ≤ cap := (by have := hO.le.1; simpa using this); have hcapm : cap ≤ maxLen := hO.le.2; have hcap0 : B.length ≤ cap := (by omega)))
      | (at_builtin; ((refine wpList_append_row byteE rfl (.tmp 17) (.tmp 18) 44 rfl w.heap.size 5 (.int .u8 0) 1 Try.underlying44 info_u8 rfl rfl rfl (D := []) (World.ownsRow_made w #[] 0 (Nat.le_refl _) (Nat.zero_le _) (by simp)) (HB.out.kept ((Kept.refl _ _).alloc _)) (by unfold maxLen; simp; omega) (by simp; omega) (by simp) ?_); intro v1 w1 ho1 hk10; have hk1 : Kept (fun b => (Value.slice (some ⟨w.heap.size, 0, none⟩) 0 0).ownBlock = some b) _ w1 := hk10; clear hk10; rw [List.nil_append] at ho1; have K1 := Lib.hid (((Kept.refl (fun _ => False) w).alloc _).over hk1 (fun b hb => by cases hb; exact Nat.le_refl _)); obtain ⟨a1, c1, rfl⟩ := owns_sl ho1; have O1 := Lib.hid ho1; clear hk1 ho1)))
    have hsB : SlAt byteE w2 (.slice (some ⟨g, 0, none⟩) B.length cap) B := by
      have h1 := hO.take B.length
      rw [List.take_left] at h1
      exact h1.slAt
    refine (read_any hsB (by omega)).mono ?_
    rintro e w3 ⟨A, FR, rfl, hR, hFR, hk3⟩
    have hO3 := hO.keep hk3 (fun h => h)
    have g0 : w3.cell? ⟨g, B.length, none⟩ = some (.int .u8 171) := by have := hO3.cell (i := B.length) (j := 0) (x := 171) (u := .int .u8 171) (by simp) rfl; simpa [byteE] using this
    have g1 : w3.cell? ⟨g, B.length + 1, none⟩ = some (.int .u8 172) := by have := hO3.cell (i := B.length + 1) (j := 0) (x := 172) (u := .int .u8 172) (by simp) rfl; simpa [byteE] using this
    have hby := bytes_same (hsB.kept hk3) (HB.out.kept (K2.out.trans hk3 (fun _ _ h => h))) (by omega)
    have K3 := Lib.hid (K2.out.trans hk3 (fun _ _ h => h))
    have HR := Lib.hid hR
    have FRl : Hid (∀ b, FR b → ¬ b = g) := Lib.hid fun b hb e => by have := (hFR b hb).1; have := hO.lt; omega
    have FRw : Hid (∀ b, FR b → w.heap.size ≤ b ∧ b < w3.heap.size) := Lib.hid fun b hb => ⟨by have := (hFR b hb).1; have := K2.out.size; omega, (hFR b hb).2⟩
    have O3 := Lib.hid hO3
    clear hO hsB hR hFR hk3 hO3 K2
    go_wp2_with fail
    refine hby.mono ?_
    rintro e w' ⟨rfl, q, rfl⟩
    clear hby
    go_wp2_with fail
    go_loopw [7] (fun iv wr => ∃ n : Nat, iv = .int .i64 n ∧ n ≤ B.length + 2 ∧ RowFrom wr g cap n (B.length + 2) ∧ Kept (· = g) w3 wr) (fun iv _ => B.length + 2 - (intOf iv).toNat)
    case atStart => exact ⟨0, rfl, Nat.zero_le _, rowFrom_start (O3.out.keep ((Kept.refl (fun _ => False) w3).drewN q) (fun h => h)) (by simp), (Kept.refl _ _).drewN q⟩
    case round =>
      obtain ⟨n, rfl, hn, ⟨cs, hb, hsz, hrow⟩, hkg⟩ := hrel
      have hn0 : (0 : Int) ≤ n := by omega
      by_cases hlt : n < B.length + 2
      case pos =>
        obtain ⟨k, hk0, hk1, hck⟩ := hrow n (Nat.le_refl _) hlt
        have hnI : (n : Int) < (B.length : Int) + 2 := by omega
        have c0 : wr.cell? ⟨g, n, none⟩ = some (.int .u8 k) := hb.cell' hck
        have f0 := hb.frozen n
        have HBk := Lib.hid hb
        have HRow := Lib.hid hrow
        have HK := Lib.hid hkg
        clear hb hrow hkg hck g0 g1
        go_wp2_with fail
        go_roundw
        case rel =>
          refine ⟨n + 1, by go_num, by omega, ⟨_, HBk.out.set_ n _, by simpa using hsz, fun j h1 h2 => ?_⟩, HK.out.setCell (fun _ => rfl) _⟩
          obtain ⟨k', h3, h4, h5⟩ := HRow.out j (by omega) h2
          exact ⟨k', h3, h4, by rw [Array.getElem?_setIfInBounds_ne (by omega)]; exact h5⟩
        case measure => simp [intOf] <;> omega
      case neg =>
        have hR := HR.out.keep hkg (fun b hb _ h => FRl.out b hb h)
        have hkw := K3.out.over hkg (fun b h => by have h : b = g := h; omega)
        have FRv : Hid (∀ b, FR b → w.heap.size ≤ b ∧ b < wr.heap.size) := Lib.hid fun b hb => ⟨(FRw.out b hb).1, Nat.lt_of_lt_of_le (FRw.out b hb).2 hkg.size⟩
        have HR2 := Lib.hid hR
        have KW := Lib.hid hkw
        clear hR hkw hrow hb hkg HR K3 O3 g0 g1 FRw FRl
        go_wp2_with fail
        refine (refRead_any ub B.length uc _).mono ?_
        rintro e w5 ⟨rfl, hg5⟩
        have hk5 : Kept (fun _ => False) wr (w5.alloc (.cells #[.slice ub B.length uc, .int .i64 0, .int .i64 0] 63)) := hg5.kept.alloc _
        have hR := HR2.out.keep hk5 (fun _ _ _ h => h)
        have hX := Blk.new w5 63 #[.slice ub B.length uc, .int .i64 0, .int .i64 0]
        have hXw : w.heap.size ≤ w5.heap.size := by have := KW.out.size; have := hg5.kept.size; omega
        have hXF : ∀ b, FR b → ¬ b = w5.heap.size := fun b hb e => by have := (FRv.out b hb).2; have := hg5.kept.size; omega
        have x0 : _ = some _ := hX.cell' (i := 0) rfl
        have x1 : _ = some _ := hX.cell' (i := 1) rfl
        have x2 : _ = some _ := hX.cell' (i := 2) rfl
        have htl := tells_any (a := ub) (c := uc) (B := B) (p := 0) (by rw [List.drop_zero]; exact hR) (by omega) (by omega)
        have HRel : Hid (Rel w A FR ub uc B w5.heap.size (w5.alloc (.cells #[.slice ub B.length uc, .int .i64 0, .int .i64 0] 63))) := Lib.hid ⟨0, 0, by omega, by rw [List.drop_zero]; exact hR, hX, KW.out.trans hk5 (fun _ _ h => h), fun b hb => Nat.lt_of_lt_of_le (FRv.out b hb).2 hk5.size⟩
        have XF := Lib.hid hXF
        have FW : Hid (∀ b, FR b → w.heap.size ≤ b) := Lib.hid fun b hb => (FRv.out b hb).1
        clear hk5 hg5 hR hX hXF KW HR2 FRv x0 x1 x2
        go_wp2_with fail
        refine htl.mono ?_
        rintro e w6 ⟨rfl, hk6⟩
        have HR6 := Lib.hid (HRel.out.kept hk6)
        clear htl hk6 HRel
        go_wp2_with fail
        generalize w5.heap.size = X at *
        go_loopw [9] (fun iv wr => ∃ n : Nat, iv = .int .i64 n ∧ n ≤ L.length ∧ Rel w A FR ub uc B X wr) (fun iv _ => L.length - (intOf iv).toNat)
        case atStart => exact ⟨0, rfl, Nat.zero_le _, HR6.out⟩
        case round =>
          clear HR6
          obtain ⟨n, rfl, hn, p, e, hp, hz, hb, hk, hFl⟩ := hrel
          have hn0 : (0 : Int) ≤ n := by omega
          by_cases h1 : n < L.length
          case pos =>
            obtain ⟨x, hx⟩ := get_of_lt h1
            obtain ⟨g, o, ci, hv, hglt, hcs⟩ := SlAt.item HS.out (by omega)
            cases hv
            have CC := Lib.hid (hcs n x hx)
            have hnl : (n : Int) < L.length := by omega
            obtain ⟨xt, xn, xs⟩ := x
            have d0 := old_cell hk CC.out.1
            have d1 := old_cell hk CC.out.2.1
            have d2 := old_cell hk CC.out.2.2
            have htk := take_any hz hFl (by rw [List.length_drop]; omega) ⟨xt, xn, xs⟩
            have htn : ∀ W, Kept (fun _ => False) w W → Calls Try.prog 36 #[.agg #[.slice ub B.length uc, .int .i64 p, .int .i64 e], .agg #[.bool xt, .int .i64 xn, .string xs]] W fun e' w' => e' = .returned (.tuple #[itemV (rtI B p e xt).1, .agg #[.slice ub B.length uc, .int .i64 (rtI B p e xt).2.1, .int .i64 (rtI B p e xt).2.2]]) ∧ Grew W w' := fun W hW => taken_any (HB.out.kept hW) (by omega) p hp e ⟨xt, xn, xs⟩
            obtain ⟨hr1, hr2, hr3, hr4⟩ := rdI_rtI hp e xt
            have htk' : Calls Try.prog 35 #[.pointer (some ⟨A, 0, none⟩), .agg #[.bool xt, .int .i64 xn, .string xs]] wr fun e' w' => e' = .returned (itemV (rtI B p e xt).1) ∧ RdIs w' A (B.drop (rtI B p e xt).2.1) (rtI B p e xt).2.2 FR ∧ Kept (· = A) wr w' := by
              rw [← hr1, ← hr2, ← hr3]; exact htk
            clear htk hr1 hr2 hr3
            generalize rtI B p e xt = T at *
            obtain ⟨⟨it, ix, is⟩, ip, ie⟩ := T
            unfold itemV at htn htk'
            simp only at htn htk' hr4
            have hA : A < wr.heap.size := by obtain ⟨v, h1, _⟩ := hz; exact h1.lt
            have hAF : FR A := by obtain ⟨v, _, _, _, rfl⟩ := hz; exact .inl rfl
            have HN := Lib.hid htn
            have HBx := Lib.hid hb
            have KK := Lib.hid hk
            have FL := Lib.hid hFl
            clear hx hcs hb hk hz hFl htn
            go_wp2_with fail
            refine htk'.mono ?_
            rintro e' w2 ⟨rfl, hz2, hk2⟩
            have hXA : ¬ X = A := fun h => XF.out A hAF h.symm
            have hgA : ¬ g = A := by have := FW.out A hAF; omega
            have d0 := far_cell hk2 hgA d0
            have d1 := far_cell hk2 hgA d1
            have d2 := far_cell hk2 hgA d2
            have hb2 := hk2.blk hXA HBx.out
            have hk2w := KK.out.over hk2 (fun b hb => by have h : b = A := hb; subst h; exact FW.out _ hAF)
            have hfl2 : ∀ b, FR b → b < w2.heap.size := fun b hb => Nat.lt_of_lt_of_le (FL.out b hb) hk2.size
            have B2 := Lib.hid hb2
            have Z2 := Lib.hid hz2
            have K2 := Lib.hid hk2w
            have FL2 := Lib.hid hfl2
            clear htk' hk2 hb2 hz2 hk2w hfl2 HBx KK FL
            go_upto_region 19 with (fail)
            have hk3 : Kept (fun _ => False) w2 (w2.alloc (.cells #[.bool it, .int .i64 ix, .string is] 49)) := (Kept.refl _ _).alloc _
            have hG := Blk.new w2 49 #[.bool it, .int .i64 ix, .string is]
            generalize w2.alloc (.cells #[.bool it, .int .i64 ix, .string is] 49) = W3 at *
            have hX3 := hk3.blk (fun h => h) B2.out
            have x0 : _ = some (Value.slice ub B.length uc) := hX3.cell' (i := 0) rfl
            have x1 : _ = some (Value.int .i64 p) := hX3.cell' (i := 1) rfl
            have x2 : _ = some (Value.int .i64 e) := hX3.cell' (i := 2) rfl
            have q0 : _ = some (Value.bool it) := hG.cell' (i := 0) rfl
            have q1 : _ = some (Value.int .i64 ix) := hG.cell' (i := 1) rfl
            have q2 : _ = some (Value.string is) := hG.cell' (i := 2) rfl
            have d0 := old_cell hk3 d0
            have d1 := old_cell hk3 d1
            have d2 := old_cell hk3 d2
            have K3 := Lib.hid (K2.out.trans hk3 (fun _ _ h => h))
            have Z3 := Lib.hid (Z2.out.keep hk3 (fun _ _ _ h => h))
            have B3 := Lib.hid hX3
            have G3 := Lib.hid hG
            have FL3 := Lib.hid (show ∀ b, FR b → b < w2.heap.size ∧ b < W3.heap.size from fun b hb => ⟨FL2.out b hb, Nat.lt_of_lt_of_le (FL2.out b hb) hk3.size⟩)
            have HT := Lib.hid (fun W (hW : Kept (fun _ => False) W3 W) => HN.out W (K3.out.trans hW (fun _ _ h => h)))
            clear hk3 hG hX3 B2 Z2 K2 FL2 HN
            have hwG : w.heap.size ≤ w2.heap.size := by have := FW.out A hAF; have := (FL3.out A hAF).1; omega
            generalize w2.heap.size = G at *
            go_cut [11, 12] (fun v8 v9 wx => ∃ A8 A9, v8 = .pointer (some ⟨A8, 0, none⟩) ∧ v9 = .pointer (some ⟨A9, 0, none⟩) ∧ (W3.heap.size ≤ A8 ∧ W3.heap.size ≤ A9) ∧ (wx.cell? ⟨A8, 0, none⟩ = some (.bool it) ∧ wx.cell? ⟨A8, 1, none⟩ = some (.int .i64 ix) ∧ wx.cell? ⟨A8, 2, none⟩ = some (.string is)) ∧ (wx.cell? ⟨A9, 0, none⟩ = some (.slice ub B.length uc) ∧ wx.cell? ⟨A9, 1, none⟩ = some (.int .i64 ip) ∧ wx.cell? ⟨A9, 2, none⟩ = some (.int .i64 ie)) ∧ Kept (fun _ => False) W3 wx)
            case first =>
              have hkk : Kept (fun _ => False) W3 W3.drew := (Kept.refl _ _).drew
              have hol0 : X < W3.heap.size := B3.out.lt
              have qa0 : ¬ X = W3.heap.size + 1 := by omega
              have qb0 : ¬ W3.heap.size + 1 = X := by omega
              have qc0 : ¬ X = W3.heap.size := by omega
              have qd0 : ¬ W3.heap.size = X := by omega
              have hol1 : g < W3.heap.size := Nat.lt_of_lt_of_le hglt K3.out.size
              have qa1 : ¬ g = W3.heap.size + 1 := by omega
              have qb1 : ¬ W3.heap.size + 1 = g := by omega
              have qc1 : ¬ g = W3.heap.size := by omega
              have qd1 : ¬ W3.heap.size = g := by omega
              go_region_held3 (fun w' => w'.cell? ⟨X, 0, none⟩ = some (.slice ub B.length uc) ∧ w'.cell? ⟨X, 1, none⟩ = some (.int .i64 p) ∧ w'.cell? ⟨X, 2, none⟩ = some (.int .i64 e) ∧ w'.cell? ⟨g, o + n * 3, none⟩ = some (.bool xt) ∧ w'.cell? ⟨g, o + n * 3 + 1, none⟩ = some (.int .i64 xn) ∧ w'.cell? ⟨g, o + n * 3 + 2, none⟩ = some (.string xs)) (first | (with_reducible exact ⟨x0, x1, x2, d0, d1, d2⟩) | go_keep)
                (first | (go_simp; go_at_call 36; refine (HT.out _ (by first | exact hkk | exact hkk.alloc _ | exact (hkk.alloc _).alloc _)).mono ?_; rintro e' w5 ⟨rfl, hg⟩; have hk6 : Kept (fun _ => False) W3 w5 := (by first | exact hkk.trans hg.kept (fun _ _ h => h) | exact (hkk.alloc _).trans hg.kept (fun _ _ h => h) | exact ((hkk.alloc _).alloc _).trans hg.kept (fun _ _ h => h)); have x0 := old_cell hk6 x0; have x1 := old_cell hk6 x1; have x2 := old_cell hk6 x2; have d0 := old_cell hk6 d0; have d1 := old_cell hk6 d1; have d2 := old_cell hk6 d2; have K6 := Lib.hid hk6; (first | (have b8 := hg.kept.blk (fun h => h) ((Blk.new W3.drew 49 #[.bool false, .int .i64 0, .string ⟨#[]⟩]).alloc (.cells #[.slice none 0 0, .int .i64 0, .int .i64 0] 63)); have b9 := hg.kept.blk (fun h => h) (Blk.new (W3.drew.alloc (.cells #[.bool false, .int .i64 0, .string ⟨#[]⟩] 49)) 63 #[.slice none 0 0, .int .i64 0, .int .i64 0]); rw [World.size_alloc] at b9; have y0 : w5.cell? ⟨W3.heap.size, 0, none⟩ = some (.bool false) := b8.cell' (i := 0) rfl; have fy0 : w5.frozen? ⟨W3.heap.size, 0, none⟩ = false := b8.frozen 0; have y1 : w5.cell? ⟨W3.heap.size, 1, none⟩ = some (.int .i64 0) := b8.cell' (i := 1) rfl; have fy1 : w5.frozen? ⟨W3.heap.size, 1, none⟩ = false := b8.frozen 1; have y2 : w5.cell? ⟨W3.heap.size, 2, none⟩ = some (.string ⟨#[]⟩) := b8.cell' (i := 2) rfl; have fy2 : w5.frozen? ⟨W3.heap.size, 2, none⟩ = false := b8.frozen 2; have ly : W3.heap.size < w5.heap.size := b8.lt; clear b8; have z0 : w5.cell? ⟨W3.heap.size + 1, 0, none⟩ = some (.slice none 0 0) := b9.cell' (i := 0) rfl; have fz0 : w5.frozen? ⟨W3.heap.size + 1, 0, none⟩ = false := b9.frozen 0; have z1 : w5.cell? ⟨W3.heap.size + 1, 1, none⟩ = some (.int .i64 0) := b9.cell' (i := 1) rfl; have fz1 : w5.frozen? ⟨W3.heap.size + 1, 1, none⟩ = false := b9.frozen 1; have z2 : w5.cell? ⟨W3.heap.size + 1, 2, none⟩ = some (.int .i64 0) := b9.cell' (i := 2) rfl; have fz2 : w5.frozen? ⟨W3.heap.size + 1, 2, none⟩ = false := b9.frozen 2; have lz : W3.heap.size + 1 < w5.heap.size := b9.lt; clear b9) | (have b9 := hg.kept.blk (fun h => h) ((Blk.new W3.drew 63 #[.slice none 0 0, .int .i64 0, .int .i64 0]).alloc (.cells #[.bool false, .int .i64 0, .string ⟨#[]⟩] 49)); have b8 := hg.kept.blk (fun h => h) (Blk.new (W3.drew.alloc (.cells #[.slice none 0 0, .int .i64 0, .int .i64 0] 63)) 49 #[.bool false, .int .i64 0, .string ⟨#[]⟩]); rw [World.size_alloc] at b8; have z0 : w5.cell? ⟨W3.heap.size, 0, none⟩ = some (.slice none 0 0) := b9.cell' (i := 0) rfl; have fz0 : w5.frozen? ⟨W3.heap.size, 0, none⟩ = false := b9.frozen 0; have z1 : w5.cell? ⟨W3.heap.size, 1, none⟩ = some (.int .i64 0) := b9.cell' (i := 1) rfl; have fz1 : w5.frozen? ⟨W3.heap.size, 1, none⟩ = false := b9.frozen 1; have z2 : w5.cell? ⟨W3.heap.size, 2, none⟩ = some (.int .i64 0) := b9.cell' (i := 2) rfl; have fz2 : w5.frozen? ⟨W3.heap.size, 2, none⟩ = false := b9.frozen 2; have lz : W3.heap.size < w5.heap.size := b9.lt; clear b9; have y0 : w5.cell? ⟨W3.heap.size + 1, 0, none⟩ = some (.bool false) := b8.cell' (i := 0) rfl; have fy0 : w5.frozen? ⟨W3.heap.size + 1, 0, none⟩ = false := b8.frozen 0; have y1 : w5.cell? ⟨W3.heap.size + 1, 1, none⟩ = some (.int .i64 0) := b8.cell' (i := 1) rfl; have fy1 : w5.frozen? ⟨W3.heap.size + 1, 1, none⟩ = false := b8.frozen 1; have y2 : w5.cell? ⟨W3.heap.size + 1, 2, none⟩ = some (.string ⟨#[]⟩) := b8.cell' (i := 2) rfl; have fy2 : w5.frozen? ⟨W3.heap.size + 1, 2, none⟩ = false := b8.frozen 2; have ly : W3.heap.size + 1 < w5.heap.size := b8.lt; clear b8) | (have b8 := hg.kept.blk (fun h => h) (Blk.new W3.drew 49 #[.bool false, .int .i64 0, .string ⟨#[]⟩]); have y0 : w5.cell? ⟨W3.heap.size, 0, none⟩ = some (.bool false) := b8.cell' (i := 0) rfl; have fy0 : w5.frozen? ⟨W3.heap.size, 0, none⟩ = false := b8.frozen 0; have y1 : w5.cell? ⟨W3.heap.size, 1, none⟩ = some (.int .i64 0) := b8.cell' (i := 1) rfl; have fy1 : w5.frozen? ⟨W3.heap.size, 1, none⟩ = false := b8.frozen 1; have y2 : w5.cell? ⟨W3.heap.size, 2, none⟩ = some (.string ⟨#[]⟩) := b8.cell' (i := 2) rfl; have fy2 : w5.frozen? ⟨W3.heap.size, 2, none⟩ = false := b8.frozen 2; have ly : W3.heap.size < w5.heap.size := b8.lt; clear b8) | (have b9 := hg.kept.blk (fun h => h) (Blk.new W3.drew 63 #[.slice none 0 0, .int .i64 0, .int .i64 0]); have z0 : w5.cell? ⟨W3.heap.size, 0, none⟩ = some (.slice none 0 0) := b9.cell' (i := 0) rfl; have fz0 : w5.frozen? ⟨W3.heap.size, 0, none⟩ = false := b9.frozen 0; have z1 : w5.cell? ⟨W3.heap.size, 1, none⟩ = some (.int .i64 0) := b9.cell' (i := 1) rfl; have fz1 : w5.frozen? ⟨W3.heap.size, 1, none⟩ = false := b9.frozen 1; have z2 : w5.cell? ⟨W3.heap.size, 2, none⟩ = some (.int .i64 0) := b9.cell' (i := 2) rfl; have fz2 : w5.frozen? ⟨W3.heap.size, 2, none⟩ = false := b9.frozen 2; have lz : W3.heap.size < w5.heap.size := b9.lt; clear b9) | skip); clear hk6 hg))
              all_goals
                go_wp2_with fail
                go_meet
                case rel =>
                  have hsz6 := K6.out.size
                  refine ⟨_, _, rfl, rfl, ⟨by omega, by omega⟩, ⟨?_, ?_, ?_⟩, ⟨?_, ?_, ?_⟩, ?_⟩
                  · go_simp
                  · go_simp
                  · go_simp
                  · go_simp
                  · go_simp
                  · go_simp
                  · repeat' (first | (with_reducible exact K6.out) | (with_reducible apply Kept.alloc) | (with_reducible refine Kept.setCell ?_ ?_ _))
                    all_goals (intro h; exact absurd h (by first | (simp; done) | (simp; omega) | omega))
            case rest =>
              obtain ⟨A8, A9, rfl, rfl, ⟨hA8, hA9⟩, ⟨y0, y1, y2⟩, ⟨z0, z1, z2⟩, hkc⟩ := hcut
              have hXl : X < W3.heap.size := B3.out.lt
              have hGl : G < W3.heap.size := G3.out.lt
              have hGX : ¬ G = X := fun h => Blk.ne_ G3.out (h ▸ B3.out) (by decide) rfl
              have hbc := hkc.blk (fun h => h) B3.out
              have x0 : _ = some _ := hbc.cell' (i := 0) rfl
              have x1 : _ = some _ := hbc.cell' (i := 1) rfl
              have x2 : _ = some _ := hbc.cell' (i := 2) rfl
              have f0 := hbc.frozen 0
              have f1 := hbc.frozen 1
              have f2 := hbc.frozen 2
              have q0 := old_cell hkc q0
              have q1 := old_cell hkc q1
              have q2 := old_cell hkc q2
              have m3 : ¬ A8 = X := by omega
              have m4 : ¬ X = A8 := by omega
              have m6 : ¬ X = G := fun h => hGX h.symm
              have hkX := set3r (w1 := wc) (k := X) (a := .slice ub B.length uc) (b := .int .i64 ip) (c := .int .i64 ie)
              have hb4 := ((hbc.set_ 0 (.slice ub B.length uc)).set_ 1 (.int .i64 ip)).set_ 2 (.int .i64 ie)
              have hz4 := (Z3.out.keep hkc (fun _ _ _ h => h)).keep hkX (fun b hb _ h => XF.out b hb h)
              have hkw := (K3.out.trans hkc (fun _ _ h => h)).over hkX (fun b hb => by have h : b = X := hb; omega)
              have hfl4 : ∀ b, FR b → b < wc.heap.size := fun b hb => Nat.lt_of_lt_of_le (FL3.out b hb).2 hkc.size
              have htl := tells_any (a := ub) (c := uc) (p := ip) hz4 hr4 (by omega)
              have HRel : Hid (Rel w A FR ub uc B X _) := Lib.hid ⟨ip, ie, hr4, hz4, hb4, hkw, fun b hb => Nat.lt_of_lt_of_le (hfl4 b hb) hkX.size⟩
              clear hbc hkX hb4 hz4 hkw hfl4 hkc B3 Z3 K3 G3 FL3 d0 d1 d2 HT
              go_wp2_with fail
              refine htl.mono ?_
              rintro e w6 ⟨rfl, hk6⟩
              have HR6 := Lib.hid (HRel.out.kept hk6)
              clear htl hk6 HRel
              go_wp2_with fail
              go_roundw
              case rel => exact ⟨n + 1, by go_num, by omega, HR6.out⟩
              case measure => simp [intOf] <;> omega
          case neg =>
            have KK := Lib.hid hk
            clear hz hb hk hFl
            go_wp2_with fail
            refine (known_any _).mono ?_
            rintro e' w6 ⟨rfl, hk6⟩
            go_wp2_with fail
            go_ret
            exact ⟨rfl, KK.out.trans hk6 (fun _ _ h => h)⟩
end stampTakes
end Go.Proofs.Ytdbnohlignpeaaa
