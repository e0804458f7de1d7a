/- Keys of Pack's and Check's maps. -/
import Derived.Test.YtdbnohlignpeaaaStMap
import Derived.Test.YtdbnohlignpeaaaStCompact
namespace Go.Proofs.Ytdbnohlignpeaaa.St
open Go.RowKit

theorem eqIn_id (x y : ID) (w : World) : (Op.equal 23 (idV x) (idV y)).run Try.prog w = .ok (decide (x = y)) w := by
  have h : decide (x = y) = (x.t == y.t && x.s == y.s) := by
    rw [Bool.eq_iff_iff]
    simp [ID.ext_iff]
  rw [h]
  obtain ⟨a, b⟩ := x
  obtain ⟨c, d⟩ := y
  show (Op.equalIn 10000 23 (.agg #[.int .i64 a, .int .i64 b]) (.agg #[.int .i64 c, .int .i64 d])).run Try.prog w = _
  go_simp
  by_cases h1 : a = c
  · by_cases h2 : b = d
    · simp [h1, h2]
    · simp [h1, h2]
  · simp [h1]
def idK : KeyE Try.prog 23 ID where
  enc := idV
  check := fun _ _ _ => by kernel_rfl
  now := fun k x d hd => .inl (by
    have e : Try.prog.underlying 23 = some d := hd
    rw [Try.underlying23] at e
    cases e
    rfl)
  ask := eqIn_id
  bits := fun k => by simp [idV, Instr.sameBits]
  und := ⟨_, Try.underlying23⟩
def intK : KeyE Try.prog 3 Int where
  enc := Value.int .i64
  check := fun _ _ _ => by kernel_rfl
  now := fun k x d hd => .inr (by
    have e : Try.prog.underlying 3 = some d := hd
    rw [Try.underlying3] at e
    cases e
    simp only [Instr.sameNow, if_pos]
    rw [show (k == x) = decide (k = x) by rw [Bool.eq_iff_iff]; simp])
  ask := fun k x w => by
    have h : decide (k = x) = (k == x) := by rw [Bool.eq_iff_iff]; simp
    rw [h]
    exact run_equalIn_int w 9999 3 .i64 .i64 k x Try.underlying3
  bits := fun k => by simp [Instr.sameBits]
  und := ⟨_, Try.underlying3⟩
end Go.Proofs.Ytdbnohlignpeaaa.St
