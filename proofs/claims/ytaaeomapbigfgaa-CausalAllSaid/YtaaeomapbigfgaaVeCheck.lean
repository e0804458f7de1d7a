/- vector.Check. -/
import Derived.Test.YtaaeomapbigfgaaVeFns
namespace Go.Proofs.Ytaaeomapbigfgaa
open Go.RowKit Go.Proofs.Ytaaeomapbigfgaa.St
theorem check_step {L : List Dot} {n : Nat} {d : Dot} (hd : L[n]? = some d) (last : Int) : chkV last (L.drop n) = if ¬ isSite d.site then 1 else if d.seq < 1 ∨ 2147483647 < d.seq then 6 else if d.site ≤ last then 9 else chkV d.site (L.drop (n + 1)) := by
  obtain ⟨h1, rfl⟩ := List.getElem?_eq_some_iff.1 hd
  rw [List.drop_eq_getElem_cons h1]
  rfl
set_option maxRecDepth 100000 in
set_option maxHeartbeats 4000000 in
theorem vcheck_any {w : World} {v : Value} {L : List Dot} (h : SlAt dotE w v L) (hb : L.length ≤ 1000000000) : Calls Try.prog 22 #[v] w fun e w' => e = .returned (.int .i64 (chkV 0 L)) ∧ Kept (fun _ => False) w w' := by
  obtain ⟨a, c, rfl, _, _⟩ := h.sl
  have HS := Lib.hid h
  clear h
  go_enter Try.func22, Try.ntmps22
  go_wp2_with fail
  go_loopw [3, 8] (fun lv iv wr => ∃ (n : Nat) (last : Int), iv = .int .i64 n ∧ lv = .int .i64 last ∧ n ≤ L.length ∧ chkV 0 L = chkV last (L.drop n) ∧ Kept (fun _ => False) w wr) (fun _ iv _ => L.length - (intOf iv).toNat)
  case atStart => exact ⟨0, 0, rfl, rfl, Nat.zero_le _, rfl, Kept.refl _ _⟩
  case round =>
    obtain ⟨n, last, rfl, rfl, hn, hch, hk⟩ := hrel
    have hn0 : (0 : Int) ≤ n := by omega
    by_cases hlt : n < L.length
    case neg =>
      have hnl : ¬ (n : Int) < L.length := by omega
      rw [List.drop_of_length_le (by omega)] at hch
      have CH := Lib.hid hch
      clear hch
      go_wp2_with fail
      go_ret
      exact ⟨by rw [CH.out]; rfl, hk⟩
    case pos =>
      have hltI : (n : Int) < L.length := by omega
      obtain ⟨⟨s, q⟩, hd⟩ := get_of_lt hlt
      obtain ⟨g, o, c', hv, hg, hc⟩ := SlAt.dot (HS.out.kept hk) (by omega)
      cases hv
      obtain ⟨c0, c1⟩ := hc n _ hd
      rw [check_step hd] at hch
      simp only at hch c0 c1
      have K0 := Lib.hid (hk.alloc (.cells #[.int .i64 s, .int .i64 q] 27))
      have hse := site_any s
      clear hc hd hk
      by_cases h1 : isSite s
      case neg =>
        rw [if_pos h1] at hch
        rw [decide_eq_false h1] at hse
        have CH := Lib.hid hch
        clear hch h1
        go_wp2_with (go_at_call 41; refine (hse _).mono ?_; rintro e w1 ⟨rfl, rfl⟩)
        go_ret
        exact ⟨by rw [CH.out]; rfl, K0.out⟩
      case pos =>
      rw [if_neg (fun h => h h1)] at hch
      rw [decide_eq_true h1] at hse
      clear h1
      by_cases h2 : q < 1 ∨ 2147483647 < q
      · rw [if_pos h2] at hch
        have CH := Lib.hid hch
        clear hch
        by_cases h3 : q < 1
        · clear h2
          go_wp2_with (go_at_call 41; refine (hse _).mono ?_; rintro e w1 ⟨rfl, rfl⟩)
          go_ret
          exact ⟨by rw [CH.out]; rfl, K0.out⟩
        · have h4 : 2147483647 < q := h2.resolve_left h3
          clear h2
          go_wp2_with (go_at_call 41; refine (hse _).mono ?_; rintro e w1 ⟨rfl, rfl⟩)
          go_ret
          exact ⟨by rw [CH.out]; rfl, K0.out⟩
      rw [if_neg h2] at hch
      have h3 : ¬ q < 1 := fun h => h2 (.inl h)
      have h4 : ¬ 2147483647 < q := fun h => h2 (.inr h)
      clear h2
      by_cases h5 : s ≤ last
      · rw [if_pos h5] at hch
        have CH := Lib.hid hch
        clear hch
        go_wp2_with (go_at_call 41; refine (hse _).mono ?_; rintro e w1 ⟨rfl, rfl⟩)
        go_ret
        exact ⟨by rw [CH.out]; rfl, K0.out⟩
      · rw [if_neg h5] at hch
        have CH := Lib.hid hch
        clear hch
        go_wp2_with (go_at_call 41; refine (hse _).mono ?_; rintro e w1 ⟨rfl, rfl⟩)
        go_roundw
        case rel => exact ⟨n + 1, s, by go_num, rfl, by omega, CH.out, K0.out⟩
        case measure => simp [intOf] <;> omega
end Go.Proofs.Ytaaeomapbigfgaa

