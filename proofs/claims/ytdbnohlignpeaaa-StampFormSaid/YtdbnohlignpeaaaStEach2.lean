/- stamp.Each, walked. -/
import Derived.Test.YtdbnohlignpeaaaStEach
namespace Go.Proofs.Ytdbnohlignpeaaa.St
open Go.RowKit
open Classical in
/-- the runs that Each goes over -/
noncomputable def goodL (L : List Run) : List Run := if Good L then L else []
theorem goodL_pos {L : List Run} (h : Good L) : goodL L = L := if_pos h
theorem goodL_neg {L : List Run} (h : ¬ Good L) : goodL L = [] := if_neg h
theorem goodL_ok (L : List Run) : ∀ r ∈ goodL L, r.Ok := by
  by_cases h : Good L
  · rw [goodL_pos h]; exact good_ok h
  · rw [goodL_neg h]; intro r hr; cases hr
theorem goodL_len (L : List Run) : (goodL L).length ≤ L.length := by
  by_cases h : Good L
  · rw [goodL_pos h]; exact Nat.le_refl _
  · rw [goodL_neg h]; exact Nat.zero_le _
set_option maxRecDepth 100000 in
set_option maxHeartbeats 4000000 in
theorem each_any {w : World} {v : Value} {L : List Run} (h : SlAt runE w v L) (hin : ∀ r ∈ L, r.In) (hb : L.length ≤ 1000000) :
    Calls Try.prog 42 #[v] w fun e w' => ∃ B v', e = .returned (.func (.func 73) #[] #[.pointer (some ⟨B, 0, none⟩)]) ∧ w.heap.size ≤ B ∧ Blk w' B 29 #[v'] ∧ SlAt runE w' v' (goodL L) ∧ (∀ b, v'.ownBlock = some b → w.heap.size ≤ b ∧ b < B) ∧ Kept (fun _ => False) w w' := by
  have hcl := clone_run h (by omega)
  obtain ⟨a, c, rfl, _, _⟩ := h.sl
  have HI := Lib.hid hin
  clear h hin
  go_enter Try.func42, Try.ntmps42
  go_wp2_with fail
  refine hcl.mono ?_
  rintro e w1 ⟨v1, rfl, ho, hk⟩
  have hown := fun b hb => ho.lt b hb
  have hsl := owns_slAt (E := runE) ho
  obtain ⟨a1, c1, rfl⟩ := owns_sl ho
  have ha : Kept (fun _ => False) w1 (w1.alloc (.cells #[.slice a1 L.length c1] 29)) := (Kept.refl _ _).alloc _
  have hB := Blk.new w1 29 #[.slice a1 L.length c1]
  have hch := check_any (hsl.kept ha) HI.out (by omega)
  have HO := Lib.hid hown
  have HSL := Lib.hid (hsl.kept ha)
  have HK := Lib.hid (hk.trans ha (fun _ _ h => h))
  have HB := Lib.hid hB
  have hsz := hk.size
  clear hcl ho hown hsl ha hB hk
  go_wp2_with fail
  refine hch.mono ?_
  rintro e w2 ⟨r, rfl, hci, hk2⟩
  have hB2 := hk2.blk (fun h => h) HB.out
  have HB2 := Lib.hid hB2
  have c0 : w2.cell? ⟨w1.heap.size, 0, none⟩ = some (.slice a1 L.length c1) := hB2.cell' rfl
  have f0 := hB2.frozen 0
  have HS2 := Lib.hid (HSL.out.kept hk2)
  have HK2 := Lib.hid (HK.out.trans hk2 (fun _ _ h => h))
  by_cases hg : Good L
  · obtain rfl : r = 0 := hci.good.1 hg
    have HG := Lib.hid hg
    clear hg hci hB2 hk2 hch HK HB HSL
    go_wp2_with fail
    go_ret
    refine ⟨_, _, rfl, hsz, HB2.out, by rw [goodL_pos HG.out]; exact HS2.out, HO.out, HK2.out⟩
  · have hr : r ≠ 0 := fun e => hg (hci.good.2 e)
    have HG := Lib.hid hg
    clear hg hci hB2 hk2 hch HK HB HSL
    go_wp2_with fail
    go_ret
    have hk3 : Kept (· = w1.heap.size) w2 (w2.setCell ⟨w1.heap.size, 0, none⟩ (.slice none 0 0)) := (Kept.refl (· = w1.heap.size) w2).setCell (p := ⟨w1.heap.size, 0, none⟩) (fun _ => rfl) _
    exact ⟨w1.heap.size, .slice none 0 0, rfl, hsz, HB2.out.set_ 0 _, (by rw [goodL_neg HG.out]; exact .inl ⟨rfl, rfl⟩), (fun b hb => by cases hb), HK2.out.over hk3 (fun b hb => by have hb : b = w1.heap.size := hb; omega)⟩
end Go.Proofs.Ytdbnohlignpeaaa.St
