/- The laws' own steps on a Reader: tells; hearsayref6.Read. -/
import Derived.Test.YtdbnohlignpeaaaStTell2
namespace Go.Proofs.Ytdbnohlignpeaaa.St
open Go.RowKit

theorem refRead_any (a : Option Addr) (n c : Nat) (w : World) : Calls Try.prog 33 #[.slice a n c] w fun e' w' => e' = .returned (.agg #[.slice a n c, .int .i64 0, .int .i64 0]) ∧ Grew w w' := by
  have G := Lib.hid ((Grew.refl w).alloc (.cells #[.slice a n c, .int .i64 0, .int .i64 0] 63))
  go_enter Try.func33, Try.ntmps33
  go_wp2_with fail
  refine bodyPost_ret (v := .agg #[.slice a n c, .int .i64 0, .int .i64 0]) (by simp [results, Try.results33, go_sem]) rfl ⟨rfl, G.out⟩
theorem cell_later {w w' : World} {x : Addr} {v : Value} (hk : Kept (fun _ => False) w w') (h : w.cell? x = some v) : w'.cell? x = some v :=
  (World.cell?_of_block (a := x) (hk.block x.block (World.block_lt_of_cell? w x h) (fun h => h))).trans h
set_option maxRecDepth 100000 in
set_option maxHeartbeats 4000000 in
theorem tells_any {w : World} {A : Nat} {B : List UInt8} {p : Nat} {e : Int} {F : Nat → Prop} {a : Option Addr} {c : Nat} (h : RdIs w A (B.drop p) e F) (hp : p ≤ B.length) (hb : B.length ≤ 1000000000) :
    Calls Try.prog 34 #[.pointer (some ⟨A, 0, none⟩), .agg #[.slice a B.length c, .int .i64 p, .int .i64 e]] w fun e' w' => e' = .returned (.bool true) ∧ Kept (fun _ => False) w w' := by
  have hk0 : Kept (fun _ => False) w (w.alloc (.cells #[.slice a B.length c, .int .i64 p, .int .i64 e] 63)) := (Kept.refl _ _).alloc _
  have hB := Blk.new w 63 #[.slice a B.length c, .int .i64 p, .int .i64 e]
  have hll : ((((B.drop p).length : Nat)) : Int) = (B.length : Int) - p := by rw [List.length_drop]; omega
  have hend : endE e (B.drop p).length = if e = 0 then (if p < B.length then 6 else 0) else e := by
    unfold endE
    rw [List.length_drop]
    by_cases he : e = 0
    · rw [if_neg (by simpa using he), if_pos he]
      by_cases hl : p < B.length
      · rw [if_pos hl, if_pos (by omega)]
      · rw [if_neg hl, if_neg (by omega)]
    · rw [if_pos he, if_neg he]
  have hErr : ∀ w', Kept (fun _ => False) w w' → Calls Try.prog 38 #[.pointer (some ⟨A, 0, none⟩)] w' fun e' w'' => e' = .returned (.int .i64 e) ∧ w' = w'' := fun w' hk => rerr_any (h.keep hk (fun _ _ _ h => h))
  have hLeft : ∀ w', Kept (fun _ => False) w w' → Calls Try.prog 37 #[.pointer (some ⟨A, 0, none⟩)] w' fun e' w'' => e' = .returned (.int .i64 ((B.length : Int) - p)) ∧ w' = w'' := fun w' hk => by
    have := rleft_any (h.keep hk (fun _ _ _ h => h))
    rw [hll] at this
    exact this
  have hEnd : ∀ w', Kept (fun _ => False) w w' → Calls Try.prog 39 #[.pointer (some ⟨A, 0, none⟩)] w' fun e' w'' => e' = .returned (.int .i64 (if e = 0 then (if p < B.length then 6 else 0) else e)) ∧ w' = w'' := fun w' hk => by
    have := rend_any (h.keep hk (fun _ _ _ h => h))
    rw [hend] at this
    exact this
  have hREnd : ∀ w', Calls Try.prog 69 #[.agg #[.slice a B.length c, .int .i64 p, .int .i64 e]] w' fun e' w'' => e' = .returned (.int .i64 (if e = 0 then (if p < B.length then 6 else 0) else e)) ∧ Grew w' w'' := fun w' => rrEnd_any a B.length c p e hp hb w'
  generalize (if e = 0 then (if p < B.length then 6 else 0) else e) = ke at hEnd hREnd
  have c0 : _ = some (Value.slice a B.length c) := hB.cell' (i := 0) rfl
  have c1 : _ = some (Value.int .i64 p) := hB.cell' (i := 1) rfl
  have c2 : _ = some (Value.int .i64 e) := hB.cell' (i := 2) rfl
  have HErr := Lib.hid hErr
  have HLeft := Lib.hid hLeft
  have HEnd := Lib.hid hEnd
  have HREnd := Lib.hid hREnd
  have hkk : Kept (fun _ => False) w (w.alloc (.cells #[.slice a B.length c, .int .i64 p, .int .i64 e] 63)).drew := hk0.drew
  clear hErr hLeft hEnd hREnd hB h hll hend hk0
  go_enter Try.func34, Try.ntmps34
  go_wp2_with fail
  go_region_held3 (fun w' => w'.cell? ⟨w.heap.size, 0, none⟩ = some (Value.slice a B.length c) ∧ w'.cell? ⟨w.heap.size, 1, none⟩ = some (Value.int .i64 p) ∧ w'.cell? ⟨w.heap.size, 2, none⟩ = some (Value.int .i64 e)) (first | exact ⟨c0, c1, c2⟩)
    (first
      | (go_simp; go_at_call 69; refine (HREnd.out _).mono ?_; rintro e' w5 ⟨rfl, hg⟩; have hk5 := hg.kept; have c0 := cell_later hk5 c0; have c1 := cell_later hk5 c1; have c2 := cell_later hk5 c2; have hkk := hkk.trans hk5 (fun _ _ h => h); clear hk5 hg)
      | (go_simp; go_at_call 39; refine (HEnd.out _ hkk).mono ?_; rintro e' w5 ⟨rfl, rfl⟩)
      | (go_simp; go_at_call 68; refine (rrLeft_any a B.length c p e hp hb _).mono ?_; rintro e' w5 ⟨rfl, hg⟩; have hk5 := hg.kept; have c0 := cell_later hk5 c0; have c1 := cell_later hk5 c1; have c2 := cell_later hk5 c2; have hkk := hkk.trans hk5 (fun _ _ h => h); clear hk5 hg)
      | (go_simp; go_at_call 37; refine (HLeft.out _ hkk).mono ?_; rintro e' w5 ⟨rfl, rfl⟩)
      | (go_simp; go_at_call 38; refine (HErr.out _ hkk).mono ?_; rintro e' w5 ⟨rfl, rfl⟩))
  go_wp2_with fail
  go_ret
  exact ⟨rfl, hkk⟩
end Go.Proofs.Ytdbnohlignpeaaa.St
