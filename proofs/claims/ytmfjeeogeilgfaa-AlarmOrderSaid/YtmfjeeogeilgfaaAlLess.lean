/- The alarm's Less and Swap, walked; the methods behind the interface. -/
import Derived.Test.YtmfjeeogeilgfaaChecked
import Derived.Test.YtmfjeeogeilgfaaBase
import Derived.Test.YtmfjeeogeilgfaaAlPlain
import Derived.BigQuiet
import Derived.BigRegion
import Derived.Deep.QuietTactic
import Derived.WalkSpells
import Derived.Lib.Hide
namespace Go.Proofs.Ytmfjeeogeilgfaa.Al
open Go.RowKit

/-! ### the methods behind the interface -/
theorem m_Push (a : Addr) (w : World) : (method 193 62 (.pointer (some a)) "Push").run Try.prog w = .ok (59, .pointer (some a)) w := by kernel_rfl
theorem m_Pop (a : Addr) (w : World) : (method 193 62 (.pointer (some a)) "Pop").run Try.prog w = .ok (58, .pointer (some a)) w := by kernel_rfl
theorem m_Len0 (a : Addr) (w : World) : (method 193 62 (.pointer (some a)) "Len").run Try.prog w =
   (match w.cell? a with
    | some v => .ok (55, v) w
    | none => match w.farLoad Try.prog a false with
      | .ok (v, _) => .ok (55, v) w
      | .error h => .halt h w) := by kernel_rfl
theorem m_Less0 (a : Addr) (w : World) : (method 193 62 (.pointer (some a)) "Less").run Try.prog w =
   (match w.cell? a with
    | some v => .ok (56, v) w
    | none => match w.farLoad Try.prog a false with
      | .ok (v, _) => .ok (56, v) w
      | .error h => .halt h w) := by kernel_rfl
theorem m_Swap0 (a : Addr) (w : World) : (method 193 62 (.pointer (some a)) "Swap").run Try.prog w =
   (match w.cell? a with
    | some v => .ok (57, v) w
    | none => match w.farLoad Try.prog a false with
      | .ok (v, _) => .ok (57, v) w
      | .error h => .halt h w) := by kernel_rfl
theorem m_Len {a : Addr} {w : World} {v : Value} (h : w.cell? a = some v) : (method 193 62 (.pointer (some a)) "Len").run Try.prog w = .ok (55, v) w := by rw [m_Len0, h]
theorem m_Less {a : Addr} {w : World} {v : Value} (h : w.cell? a = some v) : (method 193 62 (.pointer (some a)) "Less").run Try.prog w = .ok (56, v) w := by rw [m_Less0, h]
theorem m_Swap {a : Addr} {w : World} {v : Value} (h : w.cell? a = some v) : (method 193 62 (.pointer (some a)) "Swap").run Try.prog w = .ok (57, v) w := by rw [m_Swap0, h]

/-! ### Less and Swap, walked -/
theorem less_yes (sb n cap i k bi bk : Nat) (di dk : Int) (w : World) (hi : (i : Int) < n) (hk : (k : Int) < n)
   (ci : w.cell? ⟨sb, i, none⟩ = some (.pointer (some ⟨bi, 0, none⟩))) (ck : w.cell? ⟨sb, k, none⟩ = some (.pointer (some ⟨bk, 0, none⟩)))
   (ei : w.cell? ⟨bi, 2, none⟩ = some (.int .i64 di)) (ek : w.cell? ⟨bk, 2, none⟩ = some (.int .i64 dk)) (hlt : di < dk) :
  Calls Try.prog 56 #[.slice (some ⟨sb, 0, none⟩) n cap, .int .i64 i, .int .i64 k] w fun e w' => e = .returned (.bool true) ∧ ∃ m, w' = w.drewN m := by
  have h1 : (0 : Int) ≤ i := by omega
  have h2 : (0 : Int) ≤ k := by omega
  have hd : decide (di < dk) = true := by simpa using hlt
  go_enter Try.func56, Try.ntmps56
  go_wp2
  go_quiet (fail)
  go_wp2
  go_ret
  exact ⟨rfl, _, rfl⟩
theorem less_key (sb n cap i k bi bk : Nat) (di dk ki kk : Int) (w : World) (hi : (i : Int) < n) (hk : (k : Int) < n)
   (ci : w.cell? ⟨sb, i, none⟩ = some (.pointer (some ⟨bi, 0, none⟩))) (ck : w.cell? ⟨sb, k, none⟩ = some (.pointer (some ⟨bk, 0, none⟩)))
   (ei : w.cell? ⟨bi, 2, none⟩ = some (.int .i64 di)) (ek : w.cell? ⟨bk, 2, none⟩ = some (.int .i64 dk))
   (ei0 : w.cell? ⟨bi, 0, none⟩ = some (.int .i64 ki)) (ek0 : w.cell? ⟨bk, 0, none⟩ = some (.int .i64 kk)) (hd : decide (di < dk) = false) (he : (di == dk) = true) :
  Calls Try.prog 56 #[.slice (some ⟨sb, 0, none⟩) n cap, .int .i64 i, .int .i64 k] w fun e w' => e = .returned (.bool (decide (ki < kk))) ∧ ∃ m, w' = w.drewN m := by
  have h1 : (0 : Int) ≤ i := by omega
  have h2 : (0 : Int) ≤ k := by omega
  go_enter Try.func56, Try.ntmps56
  go_wp2
  go_quiet (fail)
  go_wp2
  go_ret
  exact ⟨rfl, _, rfl⟩
theorem less_no (sb n cap i k bi bk : Nat) (di dk : Int) (w : World) (hi : (i : Int) < n) (hk : (k : Int) < n)
   (ci : w.cell? ⟨sb, i, none⟩ = some (.pointer (some ⟨bi, 0, none⟩))) (ck : w.cell? ⟨sb, k, none⟩ = some (.pointer (some ⟨bk, 0, none⟩)))
   (ei : w.cell? ⟨bi, 2, none⟩ = some (.int .i64 di)) (ek : w.cell? ⟨bk, 2, none⟩ = some (.int .i64 dk)) (hd : decide (di < dk) = false) (he : (di == dk) = false) :
  Calls Try.prog 56 #[.slice (some ⟨sb, 0, none⟩) n cap, .int .i64 i, .int .i64 k] w fun e w' => e = .returned (.bool false) ∧ ∃ m, w' = w.drewN m := by
  have h1 : (0 : Int) ≤ i := by omega
  have h2 : (0 : Int) ≤ k := by omega
  go_enter Try.func56, Try.ntmps56
  go_wp2
  go_quiet (fail)
  go_wp2
  go_ret
  exact ⟨rfl, _, rfl⟩
theorem swap_any (sb n cap i k bi bk : Nat) (xi xk : Value) (w : World) (hi : (i : Int) < n) (hk : (k : Int) < n) (hik : i < k ∨ k < i)
   (hb1 : bi ≠ bk) (hb2 : sb ≠ bi) (hb3 : sb ≠ bk)
   (ci : w.cell? ⟨sb, i, none⟩ = some (.pointer (some ⟨bi, 0, none⟩))) (ck : w.cell? ⟨sb, k, none⟩ = some (.pointer (some ⟨bk, 0, none⟩)))
   (fi : w.frozen? ⟨sb, i, none⟩ = false) (fk : w.frozen? ⟨sb, k, none⟩ = false)
   (ei : w.cell? ⟨bi, 3, none⟩ = some xi) (ek : w.cell? ⟨bk, 3, none⟩ = some xk)
   (gi : w.frozen? ⟨bi, 3, none⟩ = false) (gk : w.frozen? ⟨bk, 3, none⟩ = false) :
  Calls Try.prog 57 #[.slice (some ⟨sb, 0, none⟩) n cap, .int .i64 i, .int .i64 k] w fun e w' => e = .returned (.tuple #[]) ∧ ∃ m, w' = ((((w.setCell ⟨sb, i, none⟩ (.pointer (some ⟨bk, 0, none⟩))).setCell ⟨sb, k, none⟩ (.pointer (some ⟨bi, 0, none⟩))).setCell ⟨bk, 3, none⟩ (.int .i64 i)).setCell ⟨bi, 3, none⟩ (.int .i64 k)).drewN m := by
  have h1 : (0 : Int) ≤ i := by omega
  have h2 : (0 : Int) ≤ k := by omega
  have hik' : ¬ i = k := by omega
  have hki' : ¬ k = i := by omega
  go_enter Try.func57, Try.ntmps57
  go_wp2
  go_region
  all_goals go_wp2
  all_goals go_region
  all_goals go_end0
  all_goals exact ⟨rfl, 2, rfl⟩

end Go.Proofs.Ytmfjeeogeilgfaa.Al
