/- heap.up and heap.down over the row of timers behind an Alarm. -/
import Derived.Test.YtmfjeeogeilgfaaAlHeap
namespace Go.Proofs.Ytmfjeeogeilgfaa.Al
open Go.RowKit
section
variable {w : World} {A sb cap : Nat} {l m : Int} {mv : Value} {X : Row}

def UpRel (w : World) (A sb cap : Nat) (l m : Int) (mv : Value) (X : Row) (n : Nat) (j : Value) (wr : World) : Prop :=
  ∃ (k : Nat) (Y : Row), j = .int .i64 k ∧ k < n ∧ Y.length = X.length ∧ Y.Perm X ∧ HeapAt wr A sb cap l m mv Y ∧ Hp.Up T.le (fX Y) n k ∧ (∀ j, n ≤ j → Y[j]? = X[j]?) ∧ Kept (HF sb X) w wr
def UpEnd (w : World) (A sb cap : Nat) (l m : Int) (mv : Value) (X : Row) (n : Nat) (w' : World) : Prop :=
  ∃ Y : Row, Y.Perm X ∧ HeapAt w' A sb cap l m mv Y ∧ Hp.Ok T.le (fX Y) n ∧ (∀ j, n ≤ j → Y[j]? = X[j]?) ∧ Kept (HF sb X) w w'

theorem up_heap (h : HeapAt w A sb cap l m mv X) {j n : Nat} (hj : j < n) (hn : n ≤ X.length) (hu : Hp.Up T.le (fX X) n j) (hbig : X.length ≤ 1000000) :
    Calls Try.prog 37 #[.iface 62 (.pointer (some ⟨A, 3, none⟩)), .int .i64 j] w fun e w' => e = .returned (.tuple #[]) ∧ UpEnd w A sb cap l m mv X n w' := by
  go_enter Try.func37, Try.ntmps37
  go_wp2_with fail
  go_loopw [1] (fun j wr => UpRel w A sb cap l m mv X n j wr) (fun j _ => (intOf j).toNat)
  case atStart => exact ⟨j, X, rfl, hj, rfl, List.Perm.refl _, h, hu, fun _ _ => rfl, Kept.refl _ _⟩
  case round =>
    obtain ⟨k, Y, rfl, hk, hlen, hp, hY, hup, htl, hkp⟩ := hrel
    have H7 := Lib.hid htl
    clear htl
    by_cases h0 : k = 0
    · subst h0
      go_wp2_with fail
      go_end0
      exact ⟨rfl, Y, hp, hY, Hp.up_zero hup, H7.out, hkp⟩
    · obtain ⟨p, hpd⟩ : ∃ p : Nat, ((k : Int) - 1) / 2 = p := ⟨(k - 1) / 2, by omega⟩
      obtain rfl : p = (k - 1) / 2 := by omega
      have hpk : ((((k - 1) / 2 : Nat) : Int) == (k : Int)) = false := by simp; omega
      obtain ⟨x, hx⟩ := get_of_lt (X := Y) (i := k) (by omega)
      obtain ⟨y, hy⟩ := get_of_lt (X := Y) (i := (k - 1) / 2) (by omega)
      have H := Lib.hid hup
      have H2 := Lib.hid hp
      have H3 := Lib.hid hlen
      have H4 := Lib.hid hx
      have H5 := Lib.hid hy
      have H6 := Lib.hid hpd
      have hk0 : (0 : Int) ≤ (k : Int) - 1 := by omega
      clear hup hp hlen hx hy
      have hml := m_Less hY.sl
      cases hlt : x.2.lt y.2
      · go_wp2_with (first
          | (go_at_call 56; refine (less_heap hY H4.out H5.out).mono ?_; rintro e w1 ⟨rfl, q, rfl⟩))
        go_end0
        refine ⟨rfl, Y, H2.out, hY.drewN q, ?_, H7.out, hkp.drewN q⟩
        exact Hp.up_stop H.out (by rw [fX_get H4.out, fX_get H5.out]; exact T.lt_false.1 hlt)
      · go_wp2_with (first
          | (go_at_call 56; refine (less_heap hY H4.out H5.out).mono ?_; rintro e w1 ⟨rfl, q, rfl⟩; have hms := m_Swap (hY.drewN q).sl)
          | (go_at_call 57; refine (swap_heap (hY.drewN q) H5.out H4.out (by omega)).mono ?_; rintro e w1 ⟨rfl, hY1, hk1⟩))
        go_roundw
        case rel =>
          refine ⟨(k - 1) / 2, swl Y ((k - 1) / 2) k, by go_num, by omega, by rw [swl_len]; exact H3.out, (swl_perm _ _ _).trans H2.out, hY1, ?_, fun c hc => by rw [swl_get H5.out H4.out, if_neg (by omega), if_neg (by omega)]; exact H7.out c hc, hkp.trans ((Kept.refl _ _ |>.drewN q).trans hk1 (fun i _ hi => HF_perm H2.out hi)) (fun i _ hi => hi)⟩
          rw [fX_swl H5.out H4.out]
          exact Hp.up_step T.le_trans H.out (by omega) (by omega) (by rw [fX_get H4.out, fX_get H5.out]; exact T.le_of_lt hlt)
        case measure => simp [intOf]; omega
end
end Go.Proofs.Ytmfjeeogeilgfaa.Al
