/- hearsayref6: Left, End, Read. -/
import Derived.Test.YtdbnohlignpeaaaStMuch
namespace Go.Proofs.Ytdbnohlignpeaaa.St
open Go.RowKit
set_option maxRecDepth 100000 in
theorem rrLeft_any (b : Option Addr) (n c p : Nat) (e : Int) (hp : p ≤ n) (hn : n ≤ 1000000000) (w : World) : Calls Try.prog 68 #[.agg #[.slice b n c, .int .i64 p, .int .i64 e]] w fun e' w' => e' = .returned (.int .i64 (n - p)) ∧ Grew w w' := by
  have hg := Grew.alloc (Grew.refl w) (.cells #[.slice b n c, .int .i64 p, .int .i64 e] 63)
  have h1 : (p : Int) ≤ n := by omega
  have h2 : (n : Int) ≤ 1000000000 := by omega
  have h3 : (0 : Int) ≤ p := by omega
  have h4 : IntKind.i64.wrap ((n : Int) - p) = (n : Int) - p := IntWalk.i64_in _ (by omega)
  go_enter Try.func68, Try.ntmps68
  go_wp2_with fail
  go_ret
  exact ⟨rfl, hg⟩
set_option maxRecDepth 100000 in
theorem rrEnd_any (b : Option Addr) (n c p : Nat) (e : Int) (hp : p ≤ n) (hn : n ≤ 1000000000) (w : World) : Calls Try.prog 69 #[.agg #[.slice b n c, .int .i64 p, .int .i64 e]] w fun e' w' => e' = .returned (.int .i64 (if e = 0 then (if p < n then 6 else 0) else e)) ∧ Grew w w' := by
  have hg := Grew.alloc (Grew.refl w) (.cells #[.slice b n c, .int .i64 p, .int .i64 e] 63)
  have hl := rrLeft_any b n c p e hp hn (w.alloc (.cells #[.slice b n c, .int .i64 p, .int .i64 e] 63))
  have G := Lib.hid hg
  clear hg
  by_cases he : e = 0
  · subst he
    rw [if_pos rfl]
    by_cases h : p < n
    · rw [if_pos h]
      have h1 : (0 : Int) < (n : Int) - p := by omega
      go_enter Try.func69, Try.ntmps69
      go_wp2_with fail
      refine hl.mono ?_
      rintro e' w1 ⟨rfl, hg1⟩
      go_wp2_with fail
      go_ret
      exact ⟨rfl, G.out.trans hg1⟩
    · rw [if_neg h]
      have h1 : ¬ (0 : Int) < (n : Int) - p := by omega
      go_enter Try.func69, Try.ntmps69
      go_wp2_with fail
      refine hl.mono ?_
      rintro e' w1 ⟨rfl, hg1⟩
      go_wp2_with fail
      go_ret
      exact ⟨rfl, G.out.trans hg1⟩
  · rw [if_neg he]
    have h1 : (e != 0) = true := by simpa using he
    clear hl he
    go_enter Try.func69, Try.ntmps69
    go_wp2_with fail
    go_ret
    exact ⟨rfl, G.out⟩
end Go.Proofs.Ytdbnohlignpeaaa.St
