/- stamp.Has, walked. -/
import Derived.Test.YtdbnohlignpeaaaStCheck
namespace Go.Proofs.Ytdbnohlignpeaaa.St
open Go.RowKit

theorem field_t (a b : Int) (w : World) : (Instr.field 23 (.agg #[.int .i64 a, .int .i64 b]) 0).run Try.prog w = .ok (.int .i64 a) w := by kernel_rfl
theorem field_s (a b : Int) (w : World) : (Instr.field 23 (.agg #[.int .i64 a, .int .i64 b]) 1).run Try.prog w = .ok (.int .i64 b) w := by kernel_rfl
set_option maxHeartbeats 2000000 in
theorem has1_any (r : Run) (hr : r.In) (x : ID) (B : Nat) (w : World) (b0 : w.cell? ⟨B, 0, none⟩ = some (.int .i64 x.t)) (b1 : w.cell? ⟨B, 1, none⟩ = some (.int .i64 x.s)) (hB : B < w.heap.size) :
    Calls Try.prog 64 #[runV r, .pointer (some ⟨B, 0, none⟩)] w fun e w' => e = .returned (.bool (r.has x)) ∧ Grew w w' := by
  obtain ⟨_, _, i3⟩ := hr
  unfold I64 at i3
  have hk0 : Kept (fun _ => False) w (w.alloc (.cells #[.int .i64 r.id.t, .int .i64 r.id.s, .int .i64 r.c] 35)) := (Kept.refl _ _).alloc _
  have hg0 := Grew.alloc (Grew.refl w) (.cells #[.int .i64 r.id.t, .int .i64 r.id.s, .int .i64 r.c] 35)
  have hb := Blk.new w 35 #[.int .i64 r.id.t, .int .i64 r.id.s, .int .i64 r.c]
  have hne : B ≠ w.heap.size := Nat.ne_of_lt hB
  have d0 := old_cell hk0 b0
  have d1 := old_cell hk0 b1
  have HB := Lib.hid hb
  have HG := Lib.hid hg0
  clear hb hg0 hk0
  unfold runV
  by_cases h1 : r.id.s = x.s
  · have e1 : (r.id.s == x.s) = true := by simpa using h1
    by_cases h2 : r.id.t ≤ x.t
    · have hv : r.has x = decide (x.t ≤ r.last.t) := by unfold Run.has; rw [decide_eq_decide]; exact ⟨fun h => h.2.2, fun h => ⟨h1, h2, h⟩⟩
      have e2 : decide (r.id.t ≤ x.t) = true := by simpa using h2
      rw [hv]
      have hla := last_core r.id.t r.id.s r.c i3.1 i3.2
      have hlast : (if r.c < 1 then ID.zero else ID.after ⟨r.id.t, r.id.s⟩ (r.c - 1)) = r.last := rfl
      simp only [hlast, idV] at hla
      generalize r.last = la at *
      obtain ⟨lt, ls⟩ := la
      simp only at hla
      clear h1 h2 hv hlast b0 b1
      have hft := field_t
      go_enter Try.func64, Try.ntmps64
      go_wp2_with fail
      have c0 : _ = some (Value.int .i64 r.id.t) := HB.out.cell' (i := 0) rfl
      have c1 : _ = some (Value.int .i64 r.id.s) := HB.out.cell' (i := 1) rfl
      have c2 : _ = some (Value.int .i64 r.c) := HB.out.cell' (i := 2) rfl
      generalize w.alloc (.cells #[.int .i64 r.id.t, .int .i64 r.id.s, .int .i64 r.c] 35) = W at *
      go_region_held3 (fun w' => w'.cell? ⟨w.heap.size, 0, none⟩ = some (.int .i64 r.id.t) ∧ w'.cell? ⟨w.heap.size, 1, none⟩ = some (.int .i64 r.id.s) ∧ w'.cell? ⟨w.heap.size, 2, none⟩ = some (.int .i64 r.c) ∧ w'.cell? ⟨B, 0, none⟩ = some (.int .i64 x.t) ∧ w'.cell? ⟨B, 1, none⟩ = some (.int .i64 x.s)) (first | exact ⟨c0, c1, c2, d0, d1⟩ | exact ⟨s0, s1, s2, s3, s4⟩)
        (first
          | (go_simp; go_at_call 62; refine (hla _).mono ?_; rintro e w2 ⟨rfl, hg2⟩; have s0 := old_cell hg2.kept c0; have s1 := old_cell hg2.kept c1; have s2 := old_cell hg2.kept c2; have s3 := old_cell hg2.kept d0; have s4 := old_cell hg2.kept d1))
      go_wp2_with fail
      go_ret
      exact ⟨rfl, (HG.out.drew).trans hg2⟩
    · have hv : r.has x = false := by unfold Run.has; rw [decide_eq_false_iff_not]; exact fun h => h2 h.2.1
      have e2 : decide (r.id.t ≤ x.t) = false := by simpa using h2
      rw [hv]
      clear h1 h2 hv b0 b1
      go_enter Try.func64, Try.ntmps64
      go_wp2_with fail
      go_quiet (fail)
      go_wp2_with fail
      go_ret
      exact ⟨rfl, HG.out.drewN _⟩
  · have hv : r.has x = false := by unfold Run.has; rw [decide_eq_false_iff_not]; exact fun h => h1 h.1
    have e1 : (r.id.s == x.s) = false := by simpa using h1
    rw [hv]
    clear h1 hv b0 b1
    go_enter Try.func64, Try.ntmps64
    go_wp2_with fail
    go_quiet (fail)
    go_wp2_with fail
    go_ret
    exact ⟨rfl, HG.out.drewN _⟩

set_option maxHeartbeats 2000000 in
theorem index_run {w : World} {v : Value} {L : List Run} (h : SlAt runE w v L) (hin : ∀ r ∈ L, r.In) (hb : L.length ≤ 1000000000) (x : ID) (B : Nat) (b0 : w.cell? ⟨B, 0, none⟩ = some (.int .i64 x.t)) (b1 : w.cell? ⟨B, 1, none⟩ = some (.int .i64 x.s)) (hB : B < w.heap.size) :
    Calls Try.prog 78 #[v, .func (.func 64) #[] #[.pointer (some ⟨B, 0, none⟩)]] w fun e w' => ∃ i : Int, e = .returned (.int .i64 i) ∧ decide (0 ≤ i) = (L.any fun r => r.has x) ∧ Grew w w' := by
  have eg : ∀ args w, (callFunc 64 args).run Try.prog w = .ok (.enter 64 args) w := enters_of Try.func64 (by kernel_rfl) rfl
  obtain ⟨a, c, rfl, _, _⟩ := h.sl
  have HI := Lib.hid hin
  have HS := Lib.hid h
  have B0 := Lib.hid b0
  have B1 := Lib.hid b1
  clear hin h b0 b1
  go_enter Try.func78, Try.ntmps78
  go_wp2_with fail
  go_loopw [8] (fun i wr => ∃ n : Nat, i = .int .i64 n ∧ n ≤ L.length ∧ (∀ (j : Nat) r, j < n → L[j]? = some r → r.has x = false) ∧ Grew w wr) (fun i _ => L.length - (intOf i).toNat)
  case atStart => exact ⟨0, rfl, Nat.zero_le _, fun _ _ h => absurd h (Nat.not_lt_zero _), Grew.refl w⟩
  case round =>
    obtain ⟨n, rfl, hn, hall, hg⟩ := hrel
    have A := Lib.hid hall
    clear hall
    by_cases hlt : n < L.length
    · obtain ⟨r, hx⟩ := get_of_lt hlt
      obtain ⟨g, o, c', hv, hglt, hc⟩ := SlAt.run (HS.out.kept hg.kept) (by omega)
      cases hv
      obtain ⟨c0, c1, c2⟩ := hc n r hx
      have hone := has1_any r (HI.out r (List.mem_of_getElem? hx)) x B wr (old_cell hg.kept B0.out) (old_cell hg.kept B1.out) (Nat.lt_of_lt_of_le hB hg.size)
      unfold runV at hone
      have X := Lib.hid hx
      have hn0 : (0 : Int) ≤ n := by omega
      have hnl : (n : Int) < L.length := by omega
      clear hx hc
      cases hbx : r.has x
      · rw [hbx] at hone
        have BX := Lib.hid hbx
        clear hbx
        go_wp2_with fail
        refine hone.mono ?_
        rintro e w2 ⟨rfl, hg2⟩
        go_wp2_with fail
        go_roundw
        case rel => exact ⟨n + 1, by go_num, by omega, fun j y hj hy => by
          rcases Nat.lt_succ_iff_lt_or_eq.1 hj with hj | rfl
          · exact A.out j y hj hy
          · rw [X.out] at hy; cases hy; exact BX.out, hg.trans hg2⟩
        case measure => simp [intOf]; omega
      · rw [hbx] at hone
        have BX := Lib.hid hbx
        clear hbx
        go_wp2_with fail
        refine hone.mono ?_
        rintro e w2 ⟨rfl, hg2⟩
        go_wp2_with fail
        go_ret
        refine ⟨n, rfl, ?_, hg.trans hg2⟩
        rw [decide_eq_true hn0]
        exact (List.any_eq_true.2 ⟨r, List.mem_of_getElem? X.out, BX.out⟩).symm
    · have hge : L.length ≤ n := by omega
      go_wp2_with fail
      go_ret
      refine ⟨-1, rfl, ?_, hg⟩
      rw [decide_eq_false (by decide)]
      refine (List.any_eq_false.2 fun r hr => ?_).symm
      obtain ⟨j, hj⟩ := List.getElem?_of_mem hr
      simpa using A.out j r (Nat.lt_of_lt_of_le (List.getElem?_eq_some_iff.1 hj).1 hge) hj
theorem contains_run {w : World} {v : Value} {L : List Run} (h : SlAt runE w v L) (hin : ∀ r ∈ L, r.In) (hb : L.length ≤ 1000000000) (x : ID) (B : Nat) (b0 : w.cell? ⟨B, 0, none⟩ = some (.int .i64 x.t)) (b1 : w.cell? ⟨B, 1, none⟩ = some (.int .i64 x.s)) (hB : B < w.heap.size) :
    Calls Try.prog 63 #[v, .func (.func 64) #[] #[.pointer (some ⟨B, 0, none⟩)]] w fun e w' => e = .returned (.bool (L.any fun r => r.has x)) ∧ Grew w w' := by
  have hi := index_run h hin hb x B b0 b1 hB
  clear h hin b0 b1
  generalize (L.any fun r => r.has x) = b at *
  go_enter Try.func63, Try.ntmps63
  go_wp2_with fail
  refine hi.mono ?_
  rintro e w2 ⟨i, rfl, hb, hg⟩
  have BB := Lib.hid hb
  clear hb
  go_wp2_with fail
  go_ret
  exact ⟨by rw [← BB.out]; rfl, hg⟩
/-- stamp.Has -/
theorem has_any {w : World} {v : Value} {L : List Run} (h : SlAt runE w v L) (hin : ∀ r ∈ L, r.In) (hb : L.length ≤ 1000000000) (x : ID) :
    Calls Try.prog 24 #[v, idV x] w fun e w' => ∃ b, e = .returned (.bool b) ∧ HasIs L x b ∧ Kept (fun _ => False) w w' := by
  have hk0 : Kept (fun _ => False) w (w.alloc (.cells #[.int .i64 x.t, .int .i64 x.s] 23)) := (Kept.refl _ _).alloc _
  have hb0 := Blk.new w 23 #[.int .i64 x.t, .int .i64 x.s]
  have hc := check_any (h.kept hk0) hin hb
  have HC := fun (w2 : World) (hk : Kept (fun _ => False) (w.alloc (.cells #[.int .i64 x.t, .int .i64 x.s] 23)) w2) => contains_run ((h.kept hk0).kept hk) hin hb x w.heap.size ((hk.blk (fun h => h) hb0).cell' (i := 0) rfl) ((hk.blk (fun h => h) hb0).cell' (i := 1) rfl) (hk.blk (fun h => h) hb0).lt
  have H := Lib.hid HC
  have K := Lib.hid hk0
  obtain ⟨a, c, rfl, _, _⟩ := h.sl
  clear HC hb0 hk0 h
  unfold idV
  go_enter Try.func24, Try.ntmps24
  go_wp2_with fail
  refine hc.mono ?_
  rintro e w2 ⟨ce, rfl, hce, hk2⟩
  have C := Lib.hid hce
  by_cases h0 : ce = 0
  · subst h0
    have hcon := H.out w2 hk2
    have hg := C.out.good.2 rfl
    have HG := Lib.hid (hasIs_any (x := x) hg)
    generalize (L.any fun r => r.has x) = b at *
    clear hg hce
    go_wp2_with fail
    refine hcon.mono ?_
    rintro e w3 ⟨rfl, hg3⟩
    go_wp2_with fail
    go_ret
    exact ⟨b, rfl, HG.out, (K.out.trans hk2 (fun _ _ h => h)).trans hg3.kept (fun _ _ h => h)⟩
  · have hb1 : (ce == 0) = false := by simpa using h0
    have HG := Lib.hid (hasIs_bad (x := x) (fun hg => h0 (C.out.good.1 hg)))
    clear h0 hce
    go_wp2_with fail
    go_ret
    exact ⟨false, rfl, HG.out, K.out.trans hk2 (fun _ _ h => h)⟩
end Go.Proofs.Ytdbnohlignpeaaa.St
