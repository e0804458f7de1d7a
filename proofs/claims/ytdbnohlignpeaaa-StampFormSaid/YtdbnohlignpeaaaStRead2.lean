/- stamp.Reader: Read, Text, Left, Err, End. -/
import Derived.Test.YtdbnohlignpeaaaStRead
import Derived.Laws.BytesArg
namespace Go.Proofs.Ytdbnohlignpeaaa.St
open Go.RowKit

section
variable {w w' : World} {A : Nat} {L : List UInt8} {e : Int} {F : Nat → Prop}
theorem RdIs.lt (h : RdIs w A L e F) (hL : L ≠ []) : ∀ b, F b → b < w.heap.size := by
  obtain ⟨v, h1, h2, h3, rfl⟩ := h
  rintro b (rfl | hb)
  · exact h1.lt
  · obtain ⟨g, o, c, rfl, _, _, hg, _⟩ := h2.one (List.length_pos_iff.2 hL)
    cases hb
    exact hg
theorem RdIs.keep {S : Nat → Prop} (h : RdIs w A L e F) (hk : Kept S w w') (hs : ∀ b, F b → b < w.heap.size → ¬ S b) : RdIs w' A L e F := by
  obtain ⟨v, h1, h2, h3, rfl⟩ := h
  exact ⟨v, hk.blk (hs A (.inl rfl) h1.lt) h1, h2.keep hk fun b hb hl => hs b (.inr hb) hl, h3, rfl⟩
end
theorem rnum_nil (w : World) : Calls Try.prog 54 #[.pointer none] w fun e w' => e = .returned (.int .i64 0) ∧ w = w' := by
  go_enter Try.func54, Try.ntmps54
  go_wp2
  go_step3
  go_wp2
  try simp only [Exit.noGoto_ret]
  go_ret
  exact ⟨rfl, rfl⟩
theorem rnum_err {w : World} {A : Nat} {L : List UInt8} {e0 : Int} {F : Nat → Prop} (h : RdIs w A L e0 F) (he : e0 ≠ 0) : Calls Try.prog 54 #[.pointer (some ⟨A, 0, none⟩)] w fun e w' => e = .returned (.int .i64 0) ∧ w = w' := by
  obtain ⟨v, h1, h2, h3, rfl⟩ := h
  have c1 : w.cell? ⟨A, 1, none⟩ = some (.int .i64 e0) := h1.cell' rfl
  have hb : (e0 != 0) = true := by simpa using he
  clear h1 h2 h3 he
  go_enter Try.func54, Try.ntmps54
  go_wp2
  go_step3
  go_wp2
  try simp only [Exit.noGoto_ret]
  go_ret
  exact ⟨rfl, rfl⟩
theorem rleft_nil (w : World) : Calls Try.prog 37 #[.pointer none] w fun e w' => e = .returned (.int .i64 0) ∧ w = w' := by
  go_enter Try.func37, Try.ntmps37
  go_wp2_with fail
  go_ret
  exact ⟨rfl, rfl⟩
theorem rleft_any {w : World} {A : Nat} {L : List UInt8} {e0 : Int} {F : Nat → Prop} (h : RdIs w A L e0 F) : Calls Try.prog 37 #[.pointer (some ⟨A, 0, none⟩)] w fun e w' => e = .returned (.int .i64 L.length) ∧ w = w' := by
  obtain ⟨v, h1, h2, h3, rfl⟩ := h
  obtain ⟨va, vc, rfl, _, _⟩ := h2.sl
  have c0 : w.cell? ⟨A, 0, none⟩ = some (.slice va L.length vc) := h1.cell' rfl
  clear h1 h2 h3
  go_enter Try.func37, Try.ntmps37
  go_wp2_with fail
  go_ret
  exact ⟨rfl, rfl⟩
theorem rerr_nil (w : World) : Calls Try.prog 38 #[.pointer none] w fun e w' => e = .returned (.int .i64 1) ∧ w = w' := by
  go_enter Try.func38, Try.ntmps38
  go_wp2_with fail
  go_ret
  exact ⟨rfl, rfl⟩
theorem rerr_any {w : World} {A : Nat} {L : List UInt8} {e0 : Int} {F : Nat → Prop} (h : RdIs w A L e0 F) : Calls Try.prog 38 #[.pointer (some ⟨A, 0, none⟩)] w fun e w' => e = .returned (.int .i64 e0) ∧ w = w' := by
  obtain ⟨v, h1, h2, h3, rfl⟩ := h
  have c1 : w.cell? ⟨A, 1, none⟩ = some (.int .i64 e0) := h1.cell' rfl
  clear h1 h2 h3
  go_enter Try.func38, Try.ntmps38
  go_wp2_with fail
  go_ret
  exact ⟨rfl, rfl⟩
def endE (e : Int) (n : Nat) : Int := if e ≠ 0 then e else if 0 < n then 6 else 0
theorem rend_nil (w : World) : Calls Try.prog 39 #[.pointer none] w fun e w' => e = .returned (.int .i64 1) ∧ w = w' := by
  go_enter Try.func39, Try.ntmps39
  go_wp2_with fail
  refine (rerr_nil _).mono ?_
  rintro e w' ⟨rfl, rfl⟩
  go_wp2_with fail
  go_ret
  exact ⟨rfl, rfl⟩
theorem rend_any {w : World} {A : Nat} {L : List UInt8} {e0 : Int} {F : Nat → Prop} (h : RdIs w A L e0 F) : Calls Try.prog 39 #[.pointer (some ⟨A, 0, none⟩)] w fun e w' => e = .returned (.int .i64 (endE e0 L.length)) ∧ w = w' := by
  have he := rerr_any h
  obtain ⟨v, h1, h2, h3, rfl⟩ := h
  obtain ⟨va, vc, rfl, _, _⟩ := h2.sl
  have c0 : w.cell? ⟨A, 0, none⟩ = some (.slice va L.length vc) := h1.cell' rfl
  clear h1 h2 h3
  by_cases h0 : e0 = 0
  · subst h0
    by_cases hl : 0 < L.length
    · rw [show endE 0 L.length = 6 by unfold endE; rw [if_neg (by simp), if_pos hl]]
      have hl' : (0 : Int) < L.length := by omega
      go_enter Try.func39, Try.ntmps39
      go_wp2_with fail
      refine he.mono ?_
      rintro e w' ⟨rfl, rfl⟩
      go_wp2_with fail
      go_ret
      exact ⟨rfl, rfl⟩
    · rw [show endE 0 L.length = 0 by unfold endE; rw [if_neg (by simp), if_neg hl]]
      have hl' : ¬ (0 : Int) < L.length := by omega
      go_enter Try.func39, Try.ntmps39
      go_wp2_with fail
      refine he.mono ?_
      rintro e w' ⟨rfl, rfl⟩
      go_wp2_with fail
      go_ret
      exact ⟨rfl, rfl⟩
  · rw [show endE e0 L.length = e0 by unfold endE; rw [if_pos h0]]
    have hb : (e0 != 0) = true := by simpa using h0
    clear h0
    go_enter Try.func39, Try.ntmps39
    go_wp2_with fail
    refine he.mono ?_
    rintro e w' ⟨rfl, rfl⟩
    go_wp2_with fail
    go_ret
    exact ⟨rfl, rfl⟩
/-- Read: a Reader of a copy -/
theorem read_any {w : World} {v : Value} {L : List UInt8} (h : SlAt byteE w v L) (hb : L.length ≤ 1000000000) :
    Calls Try.prog 32 #[v] w fun e w' => ∃ A F, e = .returned (.pointer (some ⟨A, 0, none⟩)) ∧ RdIs w' A L 0 F ∧ (∀ b, F b → w.heap.size ≤ b ∧ b < w'.heap.size) ∧ Kept (fun _ => False) w w' := by
  have hc := clone_bytes h hb
  obtain ⟨va, vc, rfl, _, _⟩ := h.sl
  clear h
  go_enter Try.func32, Try.ntmps32
  go_wp2_with fail
  refine hc.mono ?_
  rintro e w1 ⟨v1, rfl, ho, hk⟩
  have hsz := hk.size
  have hlt := ho.lt
  have hs := owns_slAt (E := byteE) ho
  obtain ⟨a1, c1, rfl⟩ := owns_sl ho
  have H := Lib.hid hs
  have HL := Lib.hid hlt
  clear ho hs hlt
  go_wp2_with fail
  go_ret
  refine ⟨w1.heap.size, _, rfl, ⟨.slice a1 L.length c1, Blk.new w1 _ _, H.out.kept ((Kept.refl _ _).alloc _), fun e => by have := (HL.out _ e).2; omega, rfl⟩, ?_, hk.alloc _⟩
  rintro b (rfl | hb)
  · simp; omega
  · have := HL.out b hb
    simp; omega
end Go.Proofs.Ytdbnohlignpeaaa.St
