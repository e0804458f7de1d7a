/- The laws' own helpers: ints, alike, does. -/
import Derived.Test.YtmfjeeogeilgfaaAlIs
import Derived.Deep.RegionHeld3
namespace Go.Proofs.Ytmfjeeogeilgfaa.Al
open Go.RowKit

/-- a list of numbers in memory -/
def IntsAt (w : World) (v : Value) (ks : List Int) : Prop := (∃ a c, v = .slice a ks.length c) ∧ w.ownsRow 0 3 1 v ks.length (ks.map (Value.int .i64))
theorem Answers.ints {w w' : World} {v : Value} {ks : List Int} (h : Answers w v ks w') : IntsAt w' v ks :=
  ⟨h.1, h.2.1, h.2.2.imp id fun ⟨g, cap, cur, h1, _, h3⟩ => ⟨g, cap, cur, h1, Nat.zero_le _, h3⟩⟩
theorem IntsAt.keep {w w' : World} {v : Value} {ks : List Int} {S : Nat → Prop} (h : IntsAt w v ks) (hk : Kept S w w') (hs : ∀ b, v.ownBlock = some b → ¬ S b) : IntsAt w' v ks := ⟨h.1, owns_keep h.2 hk hs⟩
theorem IntsAt.cell {w : World} {v : Value} {ks : List Int} (h : IntsAt w v ks) (hn : 0 < ks.length) : ∃ g c, v = .slice (some ⟨g, 0, none⟩) ks.length c ∧ ∀ (i : Nat) (k : Int), ks[i]? = some k → w.cell? ⟨g, i, none⟩ = some (.int .i64 k) := by
  obtain ⟨g, c, hv, _, _⟩ := h.2.form hn
  refine ⟨g, c, hv, fun i k hk => ?_⟩
  have ho := h.2
  rw [hv] at ho
  have hi : i < ks.length := (List.getElem?_eq_some_iff.1 hk).1
  have := ho.cellAt i (by omega)
  rw [this]
  simp [hk]

theorem ints_same {w : World} {u v : Value} {ks : List Int} (hu : IntsAt w u ks) (hv : IntsAt w v ks) (hbig : ks.length ≤ 9223372036854775807) :
    Calls Try.prog 21 #[u, v] w fun e w' => e = .returned (.bool true) ∧ ∃ q, w' = w.drewN q := by
  obtain ⟨⟨a, c, rfl⟩, _⟩ := id hu
  obtain ⟨⟨b, d, rfl⟩, _⟩ := id hv
  go_enter Try.func21, Try.ntmps21
  go_wp2
  go_loopw [5] (fun i wr => ∃ n q : Nat, i = .int .i64 n ∧ n ≤ ks.length ∧ wr = w.drewN q) (fun i _ => ks.length - (intOf i).toNat)
  case atStart => exact ⟨0, 0, rfl, Nat.zero_le _, rfl⟩
  case round =>
    obtain ⟨n, q, rfl, hn, rfl⟩ := hrel
    by_cases hlt : n < ks.length
    case neg =>
      have hge : ks.length ≤ n := by omega
      go_wp2
      go_ret
      exact ⟨rfl, _, rfl⟩
    case pos =>
      obtain ⟨k, hk⟩ := get_of_lt hlt
      obtain ⟨g, c', e1, h1⟩ := hu.cell (by omega)
      obtain ⟨g', c2, e2, h2⟩ := hv.cell (by omega)
      cases e1
      cases e2
      have k1 := h1 n k hk
      have k2 := h2 n k hk
      have hn0 : (0 : Int) ≤ n := by omega
      have hnl : (n : Int) < ks.length := by omega
      clear hk h1 h2
      go_wp2
      go_quiet (fail)
      go_wp2
      go_roundw
      case rel => exact ⟨n + 1, _, by go_num, by omega, rfl⟩
      case measure => simp [intOf]; omega

section
variable {w : World} {A B : Nat} {l m : Int} {ts : List T} {F G : Nat → Prop}
theorem alike_any (hA : AlarmIs w A l m ts F) (hB : RefIs w B l m ts G) (k : Int) (hbig : ts.length ≤ 1000000) :
    Calls Try.prog 11 #[.pointer (some ⟨A, 0, none⟩), .pointer (some ⟨B, 0, none⟩), .int .i64 k] w fun e w' => e = .returned (.bool true) ∧ ∃ q, w' = w.drewN q := by
  have hn := hA.good.keys
  have N := Lib.hid hn
  clear hn
  go_enter Try.func11, Try.ntmps11
  go_wp2_with fail
  refine (agap hA k).mono ?_
  rintro e w1 ⟨g, d, q1, h1, rfl, rfl⟩
  have H1 := Lib.hid h1
  clear h1
  go_wp2_with fail
  refine (rgap (hB.drewN q1) k hbig).mono ?_
  rintro e w1 ⟨g', d', q2, h2, rfl, rfl⟩
  obtain ⟨rfl, rfl⟩ := H1.out.unique N.out h2
  clear h2 H1
  go_wp2_with fail
  refine (anext (hA.drewN _)).mono ?_
  rintro e w1 ⟨k1, d1, ok1, q3, h3, rfl, rfl⟩
  have H3 := Lib.hid h3
  clear h3
  go_wp2_with fail
  refine (rnext (hB.drewN _) hbig).mono ?_
  rintro e w1 ⟨k2, d2, ok2, q4, h4, rfl, rfl⟩
  obtain ⟨rfl, rfl, rfl⟩ := H3.out.unique h4
  clear h4 H3
  cases ok1
  all_goals
    go_wp2_with fail
    refine (alen (hA.drewN _)).mono ?_
    rintro e w1 ⟨rfl, rfl⟩
    go_wp2_with fail
    refine (rlen (hB.drewN _)).mono ?_
    rintro e w1 ⟨rfl, rfl⟩
    go_wp2_with fail
    go_ret
    exact ⟨rfl, _, rfl⟩
end
end Go.Proofs.Ytmfjeeogeilgfaa.Al
