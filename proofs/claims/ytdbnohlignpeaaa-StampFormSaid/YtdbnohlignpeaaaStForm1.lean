/- hearsaylaw6.is, among. -/
import Derived.Test.YtdbnohlignpeaaaStRefEach
namespace Go.Proofs.Ytdbnohlignpeaaa.St
open Go.RowKit
namespace stampForm
theorem is_any (x : ID) (w : World) : Calls Try.prog 47 #[idV x] w fun e w' => e = .returned (.bool (decide x.Is)) ∧ Kept (fun _ => False) w w' := by
  obtain ⟨t, s⟩ := x
  have K : Hid (Kept (fun _ => False) w (w.alloc (.cells #[.int .i64 t, .int .i64 s] 23))) := Lib.hid ((Kept.refl _ _).alloc _)
  by_cases h1 : 1 ≤ t
  · by_cases h2 : t ≤ 2147483647
    · by_cases h3 : 1 ≤ s
      · by_cases h4 : s ≤ 16
        · rw [decide_eq_true (show ID.Is ⟨t, s⟩ by unfold ID.Is; exact ⟨h1, h2, h3, h4⟩)]
          unfold idV
          go_enter Try.func47, Try.ntmps47
          go_wp2_with fail
          go_ret
          exact ⟨rfl, K.out⟩
        · rw [decide_eq_false (show ¬ ID.Is ⟨t, s⟩ by unfold ID.Is; exact fun h => h4 h.2.2.2)]
          unfold idV
          go_enter Try.func47, Try.ntmps47
          go_wp2_with fail
          go_ret
          exact ⟨rfl, K.out⟩
      · rw [decide_eq_false (show ¬ ID.Is ⟨t, s⟩ by unfold ID.Is; exact fun h => h3 h.2.2.1)]
        unfold idV
        go_enter Try.func47, Try.ntmps47
        go_wp2_with fail
        go_ret
        exact ⟨rfl, K.out⟩
    · rw [decide_eq_false (show ¬ ID.Is ⟨t, s⟩ by unfold ID.Is; exact fun h => h2 h.2.1)]
      unfold idV
      go_enter Try.func47, Try.ntmps47
      go_wp2_with fail
      go_ret
      exact ⟨rfl, K.out⟩
  · rw [decide_eq_false (show ¬ ID.Is ⟨t, s⟩ by unfold ID.Is; exact fun h => h1 h.1)]
    unfold idV
    go_enter Try.func47, Try.ntmps47
    go_wp2_with fail
    go_ret
    exact ⟨rfl, K.out⟩
theorem any_in {L : List ID} {x : ID} {n : Nat} (h : L[n]? = some x) : (L.any fun y => decide (y = x)) = true := by
  rw [List.any_eq_true]
  exact ⟨x, List.mem_of_getElem? h, by simp⟩
theorem none_in {L : List ID} {x : ID} (h : ∀ (n : Nat) (y : ID), L[n]? = some y → y ≠ x) : (L.any fun y => decide (y = x)) = false := by
  rw [List.any_eq_false]
  intro y hy
  obtain ⟨n, hn⟩ := List.mem_iff_getElem?.1 hy
  simpa using h n y hn
set_option maxHeartbeats 4000000 in
theorem among_any {w : World} {v : Value} {L : List ID} (h : SlAt idE w v L) (hb : L.length ≤ 1000000) (x : ID) :
    Calls Try.prog 48 #[v, idV x] w fun e w' => e = .returned (.bool (L.any fun y => decide (y = x))) ∧ Kept (fun _ => False) w w' := by
  obtain ⟨t, s⟩ := x
  obtain ⟨a, c, rfl, _, _⟩ := h.sl
  have hk0 : Kept (fun _ => False) w (w.alloc (.cells #[.int .i64 t, .int .i64 s] 23)) := (Kept.refl _ _).alloc _
  have H0 := Lib.hid (h.kept hk0)
  have B0 := Lib.hid (Blk.new w 23 #[.int .i64 t, .int .i64 s])
  have K0 := Lib.hid hk0
  clear h hk0
  unfold idV
  go_enter Try.func48, Try.ntmps48
  go_wp2_with fail
  generalize w.alloc (.cells #[.int .i64 t, .int .i64 s] 23) = w0 at *
  go_loopw [5] (fun iv wr => ∃ n : Nat, iv = .int .i64 n ∧ n ≤ L.length ∧ (∀ (k : Nat) (y : ID), k < n → L[k]? = some y → y ≠ ⟨t, s⟩) ∧ Kept (fun _ => False) w0 wr) (fun iv _ => L.length - (intOf iv).toNat)
  case atStart => exact ⟨0, rfl, Nat.zero_le _, fun k y hk => by omega, Kept.refl _ _⟩
  case round =>
    obtain ⟨n, rfl, hn, hno, hk⟩ := hrel
    have hn0 : (0 : Int) ≤ n := by omega
    have NO := Lib.hid hno
    clear hno
    by_cases hlt : n < L.length
    case neg =>
      have hnl : ¬ (n : Int) < L.length := by omega
      go_wp2_with fail
      go_ret
      refine ⟨?_, K0.out.trans hk (fun _ _ h => h)⟩
      rw [none_in fun k y hy => NO.out k y (by have := (List.getElem?_eq_some_iff.1 hy).1; omega) hy]
      rfl
    case pos =>
      have hnl : (n : Int) < L.length := by omega
      obtain ⟨y, hy⟩ := get_of_lt hlt
      obtain ⟨g, o, c', hv, hg, hc⟩ := SlAt.id (H0.out.kept hk) (by omega)
      cases hv
      obtain ⟨c0, c1⟩ := hc n y hy
      have b0 : wr.cell? ⟨w.heap.size, 0, none⟩ = some (.int .i64 t) := (hk.blk (fun h => h) B0.out).cell' (i := 0) rfl
      have b1 : wr.cell? ⟨w.heap.size, 1, none⟩ = some (.int .i64 s) := (hk.blk (fun h => h) B0.out).cell' (i := 1) rfl
      have HY := Lib.hid hy
      clear hc hy
      obtain ⟨yt, ys⟩ := y
      by_cases e1 : yt = t ∧ ys = s
      · obtain ⟨rfl, rfl⟩ := e1
        go_wp2_with fail
        go_region
        go_wp2_with fail
        go_ret
        exact ⟨by rw [any_in HY.out]; rfl, (K0.out.trans hk (fun _ _ h => h)).drew⟩
      · have E1 := Lib.hid e1
        have hno2 : ∀ (k : Nat) (z : ID), k < n + 1 → L[k]? = some z → z ≠ ⟨t, s⟩ := fun k z hk2 hz e => by
          by_cases hkn : k < n
          · exact NO.out k z hkn hz e
          · obtain rfl : k = n := by omega
            rw [HY.out] at hz
            injection hz with hz
            rw [← hz] at e
            injection e with e2 e3
            exact E1.out ⟨e2, e3⟩
        have NO2 := Lib.hid hno2
        clear hno2
        rcases (show ¬ yt = t ∨ (yt = t ∧ ¬ ys = s) by
          by_cases h : yt = t
          · exact .inr ⟨h, fun h2 => e1 ⟨h, h2⟩⟩
          · exact .inl h) with h | ⟨rfl, h⟩
        · clear e1
          go_wp2_with fail
          go_region
          go_wp2_with fail
          go_roundw
          case rel => exact ⟨n + 1, by go_num, by omega, NO2.out, hk.drew⟩
          case measure => simp [intOf] <;> omega
        · clear e1
          go_wp2_with fail
          go_region
          go_wp2_with fail
          go_roundw
          case rel => exact ⟨n + 1, by go_num, by omega, NO2.out, hk.drew⟩
          case measure => simp [intOf] <;> omega
end stampForm
end Go.Proofs.Ytdbnohlignpeaaa.St
