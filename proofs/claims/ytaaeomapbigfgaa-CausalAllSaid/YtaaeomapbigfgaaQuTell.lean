/- (*causal.Queue).Free, Vector; causal.New. -/
import Derived.Test.YtaaeomapbigfgaaQuState
namespace Go.Proofs.Ytaaeomapbigfgaa
open Go.RowKit Go.Proofs.Ytaaeomapbigfgaa.St
open Go.Sort (grow)
set_option maxRecDepth 100000 in
set_option maxHeartbeats 1000000 in
theorem free_any {w : World} {g : Nat} {hold : Int} {vv ov : Value} {a : Option Addr} {n c : Nat} (hq : Blk w g 67 #[.int .i64 hold, vv, .slice a n c, ov]) (h1 : -1000000 ≤ hold) (h2 : hold ≤ 1000000) (hn : n ≤ 1000000) :
    Calls Try.prog 18 #[.pointer (some ⟨g, 0, none⟩)] w fun r w' => r = .returned (.int .i64 (hold - n)) ∧ Grew w w' := by
  have q0 : w.cell? ⟨g, 0, none⟩ = some (.int .i64 hold) := hq.cell' (i := 0) rfl
  have q2 : w.cell? ⟨g, 2, none⟩ = some (.slice a n c) := hq.cell' (i := 2) rfl
  have hw : IntKind.i64.wrap (hold - n) = hold - n := IntWalk.i64_in _ (by omega)
  have HH := Lib.hid hw
  clear hq
  go_enter Try.func18, Try.ntmps18
  go_wp2_with fail
  go_region
  all_goals
    go_wp2_with fail
    go_ret
    exact ⟨rfl, (Grew.refl _).drew⟩
set_option maxRecDepth 100000 in
set_option maxHeartbeats 1000000 in
theorem vector_any {w : World} {g : Nat} {h0 vv wv ov : Value} {V : List Dot} (hq : Blk w g 67 #[h0, vv, wv, ov]) (hv : SlAt dotE w vv V) (hl : V.length ≤ 1000000000) :
    Calls Try.prog 11 #[.pointer (some ⟨g, 0, none⟩)] w fun r w' => ∃ v', r = .returned v' ∧ w'.ownsRow w.heap.size 27 2 v' V.length (dotE.flat V) ∧ Kept (fun _ => False) w w' := by
  have q1 : w.cell? ⟨g, 1, none⟩ = some vv := hq.cell' (i := 1) rfl
  have HC := Lib.hid (clone_dot hv hl)
  clear hq hv
  go_enter Try.func11, Try.ntmps11
  go_wp2_with (go_at_call 23; refine HC.out.mono ?_; rintro r w1 ⟨v', rfl, ho, hk⟩)
  go_ret
  exact ⟨v', rfl, ho, hk⟩
def newC (hold : Int) (V : List Dot) : Int := if hold < 0 ∨ 256 < hold then 1 else chkV 0 V
set_option maxRecDepth 100000 in
set_option maxHeartbeats 1000000 in
theorem new_any {w : World} {hold : Int} {v : Value} {V : List Dot} (hv : SlAt dotE w v V) (hl : V.length ≤ 1000000) :
    Calls Try.prog 7 #[.int .i64 hold, v] w fun r w' => Kept (fun _ => False) w w' ∧ ((newC hold V ≠ 0 ∧ r = .returned (.tuple #[.pointer none, .int .i64 (newC hold V)])) ∨
      (newC hold V = 0 ∧ ∃ g v', r = .returned (.tuple #[.pointer (some ⟨g, 0, none⟩), .int .i64 0]) ∧ w.heap.size ≤ g ∧ Blk w' g 67 #[.int .i64 hold, v', .slice none 0 0, .slice none 0 0] ∧ w'.ownsRow w.heap.size 27 2 v' V.length (dotE.flat V))) := by
  have HV := Lib.hid hv
  clear hv
  go_enter Try.func7, Try.ntmps7
  by_cases h1 : hold < 0
  · have HC : Hid (newC hold V = 1) := Lib.hid (if_pos (.inl h1))
    go_wp2_with fail
    go_ret2
    exact ⟨Kept.refl _ _, .inl ⟨by rw [HC.out]; decide, by rw [HC.out]; rfl⟩⟩
  · by_cases h2 : 256 < hold
    · have HC : Hid (newC hold V = 1) := Lib.hid (if_pos (.inr h2))
      go_wp2_with fail
      go_ret2
      exact ⟨Kept.refl _ _, .inl ⟨by rw [HC.out]; decide, by rw [HC.out]; rfl⟩⟩
    · have HC : Hid (newC hold V = chkV 0 V) := Lib.hid (if_neg (by omega))
      have HK := Lib.hid (vcheck_any HV.out (by omega))
      by_cases hc : chkV 0 V = 0
      · rw [hc] at HK
        have HZ := Lib.hid hc
        clear hc
        go_wp2_with (first
          | (go_at_call 22; refine HK.out.mono ?_; rintro r w1 ⟨rfl, hk1⟩; have HC1 := Lib.hid (clone_dot (HV.out.kept hk1) (by omega)); have K1 := Lib.hid hk1)
          | (go_at_call 23; refine HC1.out.mono ?_; rintro r w2 ⟨v', rfl, ho, hk⟩; obtain ⟨va, vc, rfl⟩ := owns_sl ho))
        go_ret2
        have k3 := (Kept.refl (fun _ => False) w2).alloc (.cells #[.int .i64 hold, .slice va V.length vc, .slice none 0 0, .slice none 0 0] 67)
        exact ⟨(K1.out.trans hk (fun _ _ h => h)).trans k3 (fun _ _ h => h), .inr ⟨by rw [HC.out, HZ.out], _, _, rfl, (K1.out.trans hk (fun _ _ h => h)).size, Blk.new _ _ _, owns_lower (owns_keep ho k3 (fun _ _ h => h)) K1.out.size⟩⟩
      · have HZ := Lib.hid hc
        have hcb : (chkV 0 V != 0) = true := by simpa using hc
        generalize chkV 0 V = c at *
        clear hc
        go_wp2_with (go_at_call 22; refine HK.out.mono ?_; rintro r w1 ⟨rfl, hk1⟩)
        go_ret2
        exact ⟨hk1, .inl ⟨by rw [HC.out]; exact HZ.out, by rw [HC.out]; rfl⟩⟩
end Go.Proofs.Ytaaeomapbigfgaa

