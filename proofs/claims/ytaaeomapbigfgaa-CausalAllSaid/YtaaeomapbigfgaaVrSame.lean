/- hearsayref7.Same. -/
import Derived.Test.YtaaeomapbigfgaaVeOf
namespace Go.Proofs.Ytaaeomapbigfgaa
open Go.RowKit Go.Proofs.Ytaaeomapbigfgaa.St
theorem eq_dot (x y : Dot) : x = y ∨ (x ≠ y ∧ (x.site == y.site) = false) ∨ (x ≠ y ∧ (x.site == y.site) = true ∧ (x.seq == y.seq) = false) := by
  by_cases h1 : x.site = y.site
  · by_cases h2 : x.seq = y.seq
    · exact .inl (Dot.ext h1 h2)
    · exact .inr (.inr ⟨fun e => h2 (by rw [e]), by simpa using h1, by simpa using h2⟩)
  · exact .inr (.inl ⟨fun e => h1 (by rw [e]), by simpa using h1⟩)
set_option maxHeartbeats 1000000 in
theorem same_any {w : World} {u v : Value} {L M : List Dot} (hu : SlAt dotE w u L) (hv : SlAt dotE w v M) (hb : L.length ≤ 1000000000) :
    Calls Try.prog 15 #[u, v] w fun e w' => e = .returned (.bool (decide (L = M))) ∧ ∃ q, w' = w.drewN q := by
  obtain ⟨a, c, rfl, _, _⟩ := hu.sl
  obtain ⟨b, d, rfl, _, _⟩ := hv.sl
  by_cases hl : L.length = M.length
  case neg =>
    have hne : decide (L = M) = false := decide_eq_false fun e => hl (by rw [e])
    have hlb : ((L.length : Int) != M.length) = true := by simp; omega
    rw [hne]
    clear hu hv hl hne
    go_enter Try.func15, Try.ntmps15
    go_wp2
    go_ret
    exact ⟨rfl, 0, rfl⟩
  case pos =>
    have hlb : ((L.length : Int) != M.length) = false := by simp; omega
    have HU := Lib.hid hu
    have HV := Lib.hid hv
    have HL := Lib.hid hl
    clear hu hv hl
    go_enter Try.func15, Try.ntmps15
    go_wp2
    go_loopw [5] (fun i wr => ∃ n q : Nat, i = .int .i64 n ∧ n ≤ L.length ∧ L.take n = M.take n ∧ wr = w.drewN q) (fun i _ => L.length - (intOf i).toNat)
    case atStart => exact ⟨0, 0, rfl, Nat.zero_le _, rfl, rfl⟩
    case round =>
      obtain ⟨n, q, rfl, hn, ht, rfl⟩ := hrel
      have TT := Lib.hid ht
      clear ht
      by_cases hlt : n < L.length
      case neg =>
        have hge : L.length ≤ n := by omega
        have e : decide (L = M) = true := decide_eq_true (by have := TT.out; rw [List.take_of_length_le hge, List.take_of_length_le (by rw [← HL.out]; exact hge)] at this; exact this)
        have E := Lib.hid e
        clear e
        go_wp2
        go_ret
        exact ⟨by rw [E.out]; rfl, _, rfl⟩
      case pos =>
        have hlM := HL.out
        obtain ⟨x, hx⟩ := get_of_lt hlt
        obtain ⟨y, hy⟩ := get_of_lt (show n < M.length by omega)
        obtain ⟨g, o, c', e1, _, h1⟩ := SlAt.dot HU.out (by omega)
        obtain ⟨g', o', c2, e2, _, h2⟩ := SlAt.dot HV.out (by omega)
        cases e1
        cases e2
        obtain ⟨k1, k2⟩ := h1 n x hx
        obtain ⟨k4, k5⟩ := h2 n y hy
        have X0 := Lib.hid hx
        have Y0 := Lib.hid hy
        have hn0 : (0 : Int) ≤ n := by omega
        have hnl : (n : Int) < L.length := by omega
        have hnm : (n : Int) < M.length := by omega
        clear hx hy h1 h2 hlM
        rcases eq_dot x y with rfl | ⟨hxy, e1⟩ | ⟨hxy, e1, e2⟩
        · go_wp2
          go_quiet (fail)
          go_wp2
          go_roundw
          case rel => exact ⟨n + 1, _, by go_num, by omega, by rw [List.take_add_one, List.take_add_one, X0.out, Y0.out, TT.out], rfl⟩
          case measure => simp [intOf]; omega
        all_goals
          have HNE := Lib.hid hxy
          clear hxy
          have NE : Hid (decide (L = M) = false) := decide_eq_false fun e => by
            have hz := Y0.out
            rw [← e, X0.out] at hz
            exact HNE.out (Option.some.inj hz)
          go_wp2
          go_quiet (fail)
          go_wp2
          go_ret
          exact ⟨by rw [NE.out]; rfl, _, World.drewN_drewN _ _ _⟩
end Go.Proofs.Ytaaeomapbigfgaa

