/- heap.down over the row of timers behind an Alarm. -/
import Derived.Test.YtmfjeeogeilgfaaAlUp
namespace Go.Proofs.Ytmfjeeogeilgfaa.Al
open Go.RowKit
section
variable {w : World} {A sb cap : Nat} {l m : Int} {mv : Value} {X : Row}

def DownRel (w : World) (A sb cap : Nat) (l m : Int) (mv : Value) (X : Row) (n i0 : Nat) (i : Value) (wr : World) : Prop :=
  ∃ (k : Nat) (Y : Row), i = .int .i64 k ∧ k < n ∧ Y.length = X.length ∧ Y.Perm X ∧ HeapAt wr A sb cap l m mv Y ∧ Hp.Down T.le (fX Y) n k i0 ∧ (∀ j, n ≤ j → Y[j]? = X[j]?) ∧ Kept (HF sb X) w wr
def DownEnd (w : World) (A sb cap : Nat) (l m : Int) (mv : Value) (X : Row) (n i0 : Nat) (e : Ending) (w' : World) : Prop :=
  ∃ (Y : Row) (b : Bool), e = .returned (.bool b) ∧ Y.Perm X ∧ HeapAt w' A sb cap l m mv Y ∧ (b = true → Hp.Ok T.le (fX Y) n) ∧ (b = false → Hp.Up T.le (fX Y) n i0) ∧ (∀ j, n ≤ j → Y[j]? = X[j]?) ∧ Kept (HF sb X) w w'

theorem down_end {w wr : World} {A sb cap : Nat} {l m : Int} {mv : Value} {X Y : Row} {n i0 k : Nat} {b : Bool} (hb0 : b = decide (i0 < k)) (hp : Y.Perm X) (hY : HeapAt wr A sb cap l m mv Y) (hd : Hp.Down T.le (fX Y) n k i0)
    (ht : ∀ j, n ≤ j → Y[j]? = X[j]?) (hk : Kept (HF sb X) w wr) (hl : ∀ c, 0 < c → c < n → (c - 1) / 2 = k → T.le (fX Y k) (fX Y c)) :
    DownEnd w A sb cap l m mv X n i0 (.returned (.bool b)) wr := by
  refine ⟨Y, _, rfl, hp, hY, fun hb => ?_, fun hb => ?_, ht, hk⟩
  · subst hb0; exact Hp.down_moved hd (by simpa using hb) hl
  · subst hb0
    have h1 := hd.2.2
    have h2 : ¬ i0 < k := by simpa using hb
    obtain rfl : k = i0 := by omega
    exact Hp.down_stop hd hl
theorem down_rel {w wr w2 : World} {A sb cap : Nat} {l m : Int} {mv : Value} {X Y : Row} {n i0 k j q : Nat} {x y : Nat × T} (hlen : Y.length = X.length) (hp : Y.Perm X) (hd : Hp.Down T.le (fX Y) n k i0)
    (ht : ∀ j, n ≤ j → Y[j]? = X[j]?) (hk : Kept (HF sb X) w wr) (hx : Y[k]? = some x) (hy : Y[j]? = some y) (hj : j < n) (hkn : k < n) (hji : j = 2 * k + 1 ∨ j = 2 * k + 2)
    (hmin : ∀ c, 0 < c → c < n → (c - 1) / 2 = k → T.le (fX Y j) (fX Y c)) (hl : y.2.lt x.2 = true) (hY2 : HeapAt w2 A sb cap l m mv (swl Y k j)) (hk2 : Kept (HF sb Y) (wr.drewN q) w2) {v : Value} (hv : v = .int .i64 j) :
    DownRel w A sb cap l m mv X n i0 v w2 := by
  refine ⟨j, swl Y k j, hv, hj, by rw [swl_len]; exact hlen, (swl_perm _ _ _).trans hp, hY2, ?_, fun c hc => ?_, hk.trans (((Kept.refl _ _).drewN q).trans hk2 (fun i _ hi => HF_perm hp hi)) (fun i _ hi => hi)⟩
  · rw [fX_swl hx hy]
    exact Hp.down_step hd hj hji hmin (by rw [fX_get hx, fX_get hy]; exact T.le_of_lt hl)
  · rw [swl_get hx hy, if_neg (by omega), if_neg (by omega)]; exact ht c hc

set_option maxHeartbeats 800000 in
theorem down_heap (h : HeapAt w A sb cap l m mv X) {i0 n : Nat} (hi : i0 < n) (hn : n ≤ X.length) (hd : Hp.Down T.le (fX X) n i0 i0) (hbig : X.length ≤ 1000000) :
    Calls Try.prog 36 #[.iface 62 (.pointer (some ⟨A, 3, none⟩)), .int .i64 i0, .int .i64 n] w fun e w' => DownEnd w A sb cap l m mv X n i0 e w' := by
  go_enter Try.func36, Try.ntmps36
  go_wp2_with fail
  go_loopw [7] (fun i wr => DownRel w A sb cap l m mv X n i0 i wr) (fun i _ => n - (intOf i).toNat)
  case atStart => exact ⟨i0, X, rfl, hi, rfl, List.Perm.refl _, h, hd, fun _ _ => rfl, Kept.refl _ _⟩
  case round =>
    obtain ⟨k, Y, rfl, hk, hlen, hp, hY, hdn, htl, hkp⟩ := hrel
    have H := Lib.hid hdn
    have H2 := Lib.hid hp
    have H3 := Lib.hid hlen
    have H7 := Lib.hid htl
    have hkX : k < 1000000 := by omega
    clear hdn hp htl
    by_cases c1 : 2 * k + 1 < n
    case neg =>
      clear hlen
      go_wp2_with fail
      go_ret
      exact down_end (by simp) H2.out hY H.out H7.out hkp (fun c h0 hc he => by omega)
    case pos =>
      obtain ⟨x, hx⟩ := get_of_lt (X := Y) (i := k) (by omega)
      obtain ⟨y, hy⟩ := get_of_lt (X := Y) (i := 2 * k + 1) (by omega)
      have H4 := Lib.hid hx
      have H5 := Lib.hid hy
      clear hx hy hlen
      have hml := m_Less hY.sl
      have hmlq : ∀ q, _ := fun q => m_Less (hY.drewN q).sl
      have hmsq : ∀ q, _ := fun q => m_Swap (hY.drewN q).sl
      by_cases c2 : 2 * k + 2 < n
      case neg =>
        have hc : ∀ c, 0 < c → c < n → (c - 1) / 2 = k → c = 2 * k + 1 := fun c h0 hc he => by omega
        have H8 := Lib.hid hc
        clear hc
        cases hlt : y.2.lt x.2
        · go_wp2_with fail
          refine (less_heap hY H5.out H4.out).mono ?_
          rintro e w1 ⟨rfl, q, rfl⟩
          go_wp2_with fail
          go_ret
          exact down_end (by simp) H2.out (hY.drewN q) H.out H7.out (hkp.drewN q) (fun c h0 hc he => by rw [H8.out c h0 hc he, fX_get H4.out, fX_get H5.out]; exact T.lt_false.1 hlt)
        · go_wp2_with fail
          refine (less_heap hY H5.out H4.out).mono ?_
          rintro e w1 ⟨rfl, q, rfl⟩
          go_wp2_with fail
          refine (swap_heap (hY.drewN q) H4.out H5.out (by omega)).mono ?_
          rintro e w1 ⟨rfl, hY1, hk1⟩
          go_wp2_with fail
          go_roundw
          case rel => exact down_rel H3.out H2.out H.out H7.out hkp H4.out H5.out c1 hk (.inl rfl) (fun c h0 hc he => by rw [H8.out c h0 hc he]; exact T.le_refl _) hlt hY1 hk1 (by go_num)
          case measure => simp [intOf]; omega
      case pos =>
        obtain ⟨z, hz⟩ := get_of_lt (X := Y) (i := 2 * k + 2) (by have := H3.out; omega)
        have hc : ∀ c, 0 < c → c < n → (c - 1) / 2 = k → c = 2 * k + 1 ∨ c = 2 * k + 2 := fun c h0 hc he => by omega
        have H8 := Lib.hid hc
        have H6 := Lib.hid hz
        clear hc hz
        cases hzy : z.2.lt y.2
        · cases hlt : y.2.lt x.2
          · go_wp2_with fail
            refine (less_heap hY H6.out H5.out).mono ?_
            rintro e w1 ⟨rfl, q, rfl⟩
            go_wp2_with fail
            refine (less_heap (hY.drewN q) H5.out H4.out).mono ?_
            rintro e w1 ⟨rfl, q2, rfl⟩
            go_wp2_with fail
            go_ret
            exact down_end (by simp) H2.out (hY.drewN (q + q2)) H.out H7.out (hkp.drewN (q + q2)) (fun c h0 hc he => by
              rw [fX_get H4.out]
              rcases H8.out c h0 hc he with rfl | rfl
              · rw [fX_get H5.out]; exact T.lt_false.1 hlt
              · rw [fX_get H6.out]; exact T.le_trans (T.lt_false.1 hlt) (T.lt_false.1 hzy))
          · go_wp2_with fail
            refine (less_heap hY H6.out H5.out).mono ?_
            rintro e w1 ⟨rfl, q, rfl⟩
            go_wp2_with fail
            refine (less_heap (hY.drewN q) H5.out H4.out).mono ?_
            rintro e w1 ⟨rfl, q2, rfl⟩
            go_wp2_with fail
            refine (swap_heap (hY.drewN (q + q2)) H4.out H5.out (by omega)).mono ?_
            rintro e w1 ⟨rfl, hY1, hk1⟩
            go_wp2_with fail
            go_roundw
            case rel => exact down_rel H3.out H2.out H.out H7.out hkp H4.out H5.out c1 hk (.inl rfl) (fun c h0 hc he => by
              rw [fX_get H5.out]
              rcases H8.out c h0 hc he with rfl | rfl
              · rw [fX_get H5.out]; exact T.le_refl _
              · rw [fX_get H6.out]; exact T.lt_false.1 hzy) hlt hY1 hk1 (by go_num)
            case measure => simp [intOf]; omega
        · cases hlt : z.2.lt x.2
          · go_wp2_with fail
            refine (less_heap hY H6.out H5.out).mono ?_
            rintro e w1 ⟨rfl, q, rfl⟩
            go_wp2_with fail
            refine (less_heap (hY.drewN q) H6.out H4.out).mono ?_
            rintro e w1 ⟨rfl, q2, rfl⟩
            go_wp2_with fail
            go_ret
            exact down_end (by simp) H2.out (hY.drewN (q + q2)) H.out H7.out (hkp.drewN (q + q2)) (fun c h0 hc he => by
              rw [fX_get H4.out]
              rcases H8.out c h0 hc he with rfl | rfl
              · rw [fX_get H5.out]; exact T.le_trans (T.lt_false.1 hlt) (T.le_of_lt hzy)
              · rw [fX_get H6.out]; exact T.lt_false.1 hlt)
          · go_wp2_with fail
            refine (less_heap hY H6.out H5.out).mono ?_
            rintro e w1 ⟨rfl, q, rfl⟩
            go_wp2_with fail
            refine (less_heap (hY.drewN q) H6.out H4.out).mono ?_
            rintro e w1 ⟨rfl, q2, rfl⟩
            go_wp2_with fail
            refine (swap_heap (hY.drewN (q + q2)) H4.out H6.out (by omega)).mono ?_
            rintro e w1 ⟨rfl, hY1, hk1⟩
            go_wp2_with fail
            go_roundw
            case rel => exact down_rel H3.out H2.out H.out H7.out hkp H4.out H6.out c2 hk (.inr rfl) (fun c h0 hc he => by
              rw [fX_get H6.out]
              rcases H8.out c h0 hc he with rfl | rfl
              · rw [fX_get H5.out]; exact T.le_of_lt hzy
              · rw [fX_get H6.out]; exact T.le_refl _) hlt hY1 hk1 (by go_num)
            case measure => simp [intOf]; omega
end
end Go.Proofs.Ytmfjeeogeilgfaa.Al
