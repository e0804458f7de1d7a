/- much: is there more than a statement plays? -/
import Derived.Test.YtdbnohlignpeaaaStItem
namespace Go.Proofs.Ytdbnohlignpeaaa.St
open Go.RowKit
def total (L : List Item) : Nat := (L.map fun x => x.s.size).sum
theorem total_take {L : List Item} {n : Nat} {x : Item} (h : L[n]? = some x) : total (L.take (n + 1)) = total (L.take n) + x.s.size := by
  unfold total; rw [List.take_add_one, h]; simp
/-- what a statement plays -/
def Small (L : List Item) (m : Nat) : Prop := L.length ≤ 400 ∧ m ≤ 50000 ∧ (∀ x ∈ L, x.s.size ≤ 50000) ∧ total L ≤ 50000
theorem SlAt.item {w : World} {v : Value} {L : List Item} (h : SlAt itemE w v L) (hn : 0 < L.length) : ∃ g o c, v = .slice (some ⟨g, o, none⟩) L.length c ∧ g < w.heap.size ∧ ∀ (i : Nat) (x : Item), L[i]? = some x →
    w.cell? ⟨g, o + i * 3, none⟩ = some (.bool x.text) ∧ w.cell? ⟨g, o + i * 3 + 1, none⟩ = some (.int .i64 x.n) ∧ w.cell? ⟨g, o + i * 3 + 2, none⟩ = some (.string x.s) := by
  obtain ⟨g, o, c, rfl, _, _, hg, hc⟩ := h.one hn
  exact ⟨g, o, c, rfl, hg, fun i x hx => ⟨hc i x hx 0 _ rfl, hc i x hx 1 _ rfl, hc i x hx 2 _ rfl⟩⟩
set_option maxRecDepth 100000 in
set_option maxHeartbeats 4000000 in
theorem much_any {w : World} {v : Value} {L : List Item} (h : SlAt itemE w v L) (b : Option Addr) (m d : Nat) : Calls Try.prog 26 #[v, .slice b m d] w fun e w' => ∃ r, e = .returned (.bool r) ∧ (r = false → Small L m) ∧ w' = w := by
  obtain ⟨a, c, rfl, _, _⟩ := h.sl
  have HS := Lib.hid h
  clear h
  by_cases h1 : 400 < L.length
  · have h1I : (400 : Int) < L.length := by omega
    go_enter Try.func26, Try.ntmps26
    go_wp2_with fail
    go_ret
    exact ⟨true, rfl, (fun e => by cases e), rfl⟩
  have h1I : (L.length : Int) ≤ 400 := by omega
  by_cases h2 : 50000 < m
  · have h2I : (50000 : Int) < m := by omega
    go_enter Try.func26, Try.ntmps26
    go_wp2_with fail
    go_ret
    exact ⟨true, rfl, (fun e => by cases e), rfl⟩
  have h2I : (m : Int) ≤ 50000 := by omega
  go_enter Try.func26, Try.ntmps26
  go_wp2_with fail
  go_loopw [5, 6] (fun nv iv wr => ∃ (n : Nat), nv = .int .i64 (total (L.take n) : Nat) ∧ iv = .int .i64 n ∧ n ≤ L.length ∧ (∀ (j : Nat) (x : Item), j < n → L[j]? = some x → x.s.size ≤ 50000) ∧ total (L.take n) ≤ n * 50000 ∧ wr = w) (fun _ iv _ => L.length - (intOf iv).toNat)
  case atStart => exact ⟨0, rfl, rfl, Nat.zero_le _, (fun j x hj _ => by omega), Nat.zero_le _, rfl⟩
  case round =>
    obtain ⟨n, rfl, rfl, hn, hall, htot, rfl⟩ := hrel
    have AL := Lib.hid hall
    clear hall
    by_cases hlt : n < L.length
    case neg =>
      have hge : L.length ≤ n := by omega
      rw [List.take_of_length_le hge] at htot ⊢
      have hsm : total L ≤ 50000 → Small L m := fun ht => ⟨by omega, by omega, fun x hx => by
        obtain ⟨j, hj⟩ := List.getElem?_of_mem hx
        have hjl := (List.getElem?_eq_some_iff.1 hj).1
        exact AL.out j x (by omega) hj, ht⟩
      have SM := Lib.hid hsm
      clear hsm
      by_cases ht : 50000 < total L
      · have htI : (50000 : Int) < (total L : Nat) := by omega
        go_wp2_with fail
        go_ret
        exact ⟨true, by first | rfl | (simp; omega), (fun e => by cases e), rfl⟩
      · have htI : ((total L : Nat) : Int) ≤ 50000 := by omega
        go_wp2_with fail
        go_ret
        exact ⟨false, by first | rfl | (simp; omega), fun _ => SM.out (by omega), rfl⟩
    case pos =>
      obtain ⟨x, hx⟩ := get_of_lt hlt
      obtain ⟨g, o, c', hv, hglt, hc⟩ := SlAt.item HS.out (by omega)
      cases hv
      obtain ⟨_, _, c2⟩ := hc n x hx
      have X0 := Lib.hid hx
      have TT := Lib.hid (total_take hx)
      clear hc hx
      have hn0 : (0 : Int) ≤ n := by omega
      have hnl : (n : Int) < L.length := by omega
      by_cases h3 : 50000 < x.s.size
      · have h3I : (50000 : Int) < x.s.size := by omega
        go_wp2_with fail
        go_ret
        exact ⟨true, rfl, (fun e => by cases e), rfl⟩
      · have h3I : (x.s.size : Int) ≤ 50000 := by omega
        have htI : ((total (L.take n) : Nat) : Int) ≤ 20000000 := by omega
        go_wp2_with fail
        go_roundw
        case rel =>
          refine ⟨n + 1, by rw [TT.out]; go_num, by go_num, by omega, fun j y hj hy => ?_, by rw [TT.out]; omega, by first | rfl | trivial⟩
          by_cases hjn : j = n
          · subst hjn; cases Option.some.inj (X0.out.symm.trans hy); omega
          · exact AL.out j y (by omega) hy
        case measure => simp [intOf] <;> omega
end Go.Proofs.Ytdbnohlignpeaaa.St
