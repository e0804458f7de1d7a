/- What AlarmBacks looks at: two timers, looked at by each tick. -/
import Derived.Test.YtmfjeeogeilgfaaAlMore
namespace Go.Proofs.Ytmfjeeogeilgfaa.Al
open Go.RowKit
def BackRel (w : World) (A : Nat) (l m key other frm ticks : Int) (gv dv nv : Value) (w' : World) : Prop :=
  ∃ (gap due g2 d2 now : Int) (F : Nat → Prop), gv = .int .i64 gap ∧ dv = .int .i64 due ∧ nv = .int .i64 now ∧ AlarmIs w' A l m [⟨key, gap, due⟩, ⟨other, g2, d2⟩] F ∧ frm ≤ now ∧ now ≤ frm + ticks + 1 ∧ now ≤ due ∧ now ≤ d2 ∧
    (∀ b, b < w.heap.size → ¬ F b) ∧ Kept (fun _ => False) w w'
theorem bumpD_form (m now k g d : Int) : ∃ g' d', bumpD m now ⟨k, g, d⟩ = ⟨k, g', d'⟩ := by
  unfold bumpD; split
  · exact ⟨_, _, rfl⟩
  · exact ⟨_, _, rfl⟩
theorem back_due {l m key other gap due g2 d2 now : Int} {us : List T} {ks : List Int} (hne : (key == other) = false) (hG : Good l m [⟨key, gap, due⟩, ⟨other, g2, d2⟩]) (ht : tickB now = true) (h : DueIs m now [⟨key, gap, due⟩, ⟨other, g2, d2⟩] ks us) (h1 : now ≤ due) :
    ∃ K', (K' : T).key = key ∧ (∃ g' d', now < d' ∧ us.Perm [K', ⟨other, g', d'⟩]) ∧ now < K'.due ∧ (∀ k ∈ ks, k = key ∨ k = other) ∧
      ((now = due ∧ ks.contains key = true ∧ K' = ⟨key, min (2 * gap) m, now + min (2 * gap) m⟩) ∨ (now < due ∧ ks.contains key = false ∧ K' = ⟨key, gap, due⟩)) := by
  have hne' : key ≠ other := by simpa using hne
  obtain ⟨i1, i2, _, i4⟩ := h.what hG ht
  obtain ⟨g', d', hO⟩ := bumpD_form m now other g2 d2
  simp only [List.map_cons, List.map_nil] at i1
  rw [hO] at i1
  refine ⟨bumpD m now ⟨key, gap, due⟩, bumpD_key m now _, ⟨g', d', i4 ⟨other, g', d'⟩ (i1.mem_iff.2 (by simp)), i1⟩, i4 (bumpD m now ⟨key, gap, due⟩) (i1.mem_iff.2 (by simp)), fun k hk => ?_, ?_⟩
  · obtain ⟨t, ht, rfl, _⟩ := (i2 k).1 hk
    simp only [List.mem_cons, List.not_mem_nil, or_false] at ht
    rcases ht with rfl | rfl
    · exact .inl rfl
    · exact .inr rfl
  · have hk : key ∈ ks ↔ due ≤ now := by
      rw [i2]
      constructor
      · rintro ⟨t, ht, hk, hd⟩
        simp only [List.mem_cons, List.not_mem_nil, or_false] at ht
        rcases ht with rfl | rfl
        · exact hd
        · exact absurd hk.symm hne'
      · exact fun hd => ⟨⟨key, gap, due⟩, by simp, rfl, hd⟩
    by_cases hd : due ≤ now
    · exact .inl ⟨by omega, by simpa using hk.2 hd, by unfold bumpD; rw [if_pos hd]; rfl⟩
    · exact .inr ⟨by omega, by simpa using fun e => hd (hk.1 e), by unfold bumpD; rw [if_neg hd]⟩
theorem take_contains {ks : List Int} {i : Nat} {k key : Int} (h : ks[i]? = some k) : (ks.take (i + 1)).contains key = ((ks.take i).contains key || k == key) := by
  rw [List.take_add_one, h]
  simp only [Option.toList_some, List.contains_eq_any_beq, List.any_append, List.any_cons, List.any_nil, Bool.or_false]
  congr 1
  exact Bool.beq_comm
end Go.Proofs.Ytmfjeeogeilgfaa.Al
