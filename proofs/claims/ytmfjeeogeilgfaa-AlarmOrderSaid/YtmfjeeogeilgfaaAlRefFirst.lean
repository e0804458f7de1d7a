/- The document's Alarm: first, Next, Gap. -/
import Derived.Test.YtmfjeeogeilgfaaAlRef
namespace Go.Proofs.Ytmfjeeogeilgfaa.Al
open Go.RowKit

/-- the place of the first timer, -1: there is none -/
def IsFirst (L : List T) (k : Int) : Prop := (L = [] ∧ k = -1) ∨ ∃ (i : Nat) (t : T), k = i ∧ L[i]? = some t ∧ ∀ (j : Nat) (u : T), L[j]? = some u → t.le u
def FirstRel (w : World) (L : List T) (kv iv : Value) (wr : World) : Prop :=
  ∃ (n q : Nat), iv = .int .i64 n ∧ n ≤ L.length ∧ wr = w.drewN q ∧ ((n = 0 ∧ kv = .int .i64 (-1)) ∨ ∃ (i : Nat) (t : T), i < n ∧ kv = .int .i64 i ∧ L[i]? = some t ∧ ∀ (j : Nat) (u : T), j < n → L[j]? = some u → t.le u)

section
variable {w : World} {B : Nat} {l m : Int} {v : Value} {L : List T}
theorem first_take {n i q : Nat} {t : T} (hn : n < L.length) (hi : i < n + 1) (ht : L[i]? = some t) (hmin : ∀ j u, j < n + 1 → L[j]? = some u → t.le u) {kv iv : Value} (hk : kv = .int .i64 i) (hv : iv = .int .i64 ((n + 1 : Nat) : Int)) : FirstRel w L kv iv (w.drewN q) :=
  ⟨n + 1, q, hv, by omega, rfl, .inr ⟨i, t, hi, hk, ht, hmin⟩⟩

set_option maxHeartbeats 2000000 in
theorem first_any (h : RefAt w B l m v L) (hbig : L.length ≤ 1000000) : Calls Try.prog 34 #[.pointer (some ⟨B, 0, none⟩)] w fun e w' => (∃ k : Int, IsFirst L k ∧ e = .returned (.int .i64 k)) ∧ ∃ q, w' = w.drewN q := by
  obtain ⟨a, c, rfl⟩ := h.sl
  have c2 : w.cell? ⟨B, 2, none⟩ = some (.slice a L.length c) := h.blk.cell' rfl
  go_enter Try.func34, Try.ntmps34
  go_wp2
  go_loopw [3, 4] (fun k i wr => FirstRel w L k i wr) (fun _ i _ => L.length - (intOf i).toNat)
  case atStart => exact ⟨0, 0, rfl, Nat.zero_le _, rfl, .inl ⟨rfl, rfl⟩⟩
  case round =>
    obtain ⟨n, q, rfl, hn, rfl, hrel⟩ := hrel
    by_cases hlt : n < L.length
    case neg =>
      have hge : L.length ≤ n := by omega
      rcases hrel with ⟨rfl, rfl⟩ | ⟨i, t, hi, rfl, ht, hmin⟩
      · have h0 : L = [] := List.eq_nil_of_length_eq_zero (by omega)
        have H0 := Lib.hid h0
        clear h0
        go_wp2
        go_ret
        exact ⟨⟨-1, .inl ⟨H0.out, rfl⟩, rfl⟩, _, rfl⟩
      · have HM := Lib.hid hmin
        have HT := Lib.hid ht
        clear hmin ht
        go_wp2
        go_ret
        exact ⟨⟨i, .inr ⟨i, t, rfl, HT.out, fun j u hu => HM.out j u (by have := lt_of_get hu; omega) hu⟩, rfl⟩, _, rfl⟩
    case pos =>
      obtain ⟨u, hu⟩ := get_of_lt hlt
      obtain ⟨g, c', hv, hc⟩ := h.cells (by rintro rfl; simp at hlt)
      cases hv
      obtain ⟨u0, _, u2⟩ := hc n u hu
      have HU := Lib.hid hu
      clear hu
      have hn0 : (0 : Int) ≤ n := by omega
      have hnl : (n : Int) < L.length := by omega
      rcases hrel with ⟨rfl, rfl⟩ | ⟨i, t, hi, rfl, ht, hmin⟩
      · clear hc
        go_wp2
        go_quiet (fail)
        go_wp2
        go_roundw
        case rel => exact first_take (i := 0) (t := u) hlt (by omega) HU.out (fun j y hj hy => by obtain rfl : j = 0 := (by omega); have := HU.out.symm.trans hy; cases this; exact T.le_refl _) (by simp) (by go_num)
        case measure => simp [intOf]; omega
      · obtain ⟨t0, _, t2⟩ := hc i t ht
        have HM := Lib.hid hmin
        have HT := Lib.hid ht
        clear hmin ht hc
        have hi0 : (0 : Int) ≤ i := by omega
        have hil : (i : Int) < L.length := by omega
        have hneg : ((i : Int) < 0) = False := by simp
        have hnd : decide ((i : Int) < 0) = false := by simp
        by_cases c1 : u.due < t.due
        · have d1 : decide (u.due < t.due) = true := by simpa using c1
          have C1 := Lib.hid c1
          clear c1
          go_wp2
          go_quiet (fail)
          go_wp2
          go_roundw
          case rel => exact first_take (i := n) (t := u) hlt (by omega) HU.out (fun j y hj hy => by
            by_cases e : j = n
            · subst e; have := HU.out.symm.trans hy; cases this; exact T.le_refl _
            · exact T.le_trans (.inl C1.out) (HM.out j y (by omega) hy)) rfl (by go_num)
          case measure => simp [intOf]; omega
        · have d1 : decide (u.due < t.due) = false := by simpa using c1
          by_cases c3 : u.due = t.due
          · have d3 : (u.due == t.due) = true := by simpa using c3
            have C3 := Lib.hid c3
            clear c3 c1
            by_cases c4 : u.key < t.key
            · have d4 : decide (u.key < t.key) = true := by simpa using c4
              have C4 := Lib.hid c4
              clear c4
              go_wp2
              go_quiet (fail)
              go_wp2
              go_roundw
              case rel => exact first_take (i := n) (t := u) hlt (by omega) HU.out (fun j y hj hy => by
                by_cases e : j = n
                · subst e; have := HU.out.symm.trans hy; cases this; exact T.le_refl _
                · exact T.le_trans (.inr ⟨C3.out, Int.le_of_lt C4.out⟩) (HM.out j y (by omega) hy)) rfl (by go_num)
              case measure => simp [intOf]; omega
            · have d4 : decide (u.key < t.key) = false := by simpa using c4
              have C4 := Lib.hid c4
              clear c4
              go_wp2
              go_quiet (fail)
              go_wp2
              go_roundw
              case rel => exact first_take (i := i) (t := t) hlt (by omega) HT.out (fun j y hj hy => by
                by_cases e : j = n
                · subst e; have := HU.out.symm.trans hy; cases this; exact .inr ⟨C3.out.symm, by have := C4.out; omega⟩
                · exact HM.out j y (by omega) hy) rfl (by go_num)
              case measure => simp [intOf]; omega
          · have d3 : (u.due == t.due) = false := by simpa using c3
            have C3 := Lib.hid c3
            have C1 := Lib.hid c1
            clear c3 c1
            go_wp2
            go_quiet (fail)
            go_wp2
            go_roundw
            case rel => exact first_take (i := i) (t := t) hlt (by omega) HT.out (fun j y hj hy => by
              by_cases e : j = n
              · subst e; have := HU.out.symm.trans hy; cases this; exact .inl (by have := C3.out; have := C1.out; omega)
              · exact HM.out j y (by omega) hy) rfl (by go_num)
            case measure => simp [intOf]; omega
end
end Go.Proofs.Ytmfjeeogeilgfaa.Al
