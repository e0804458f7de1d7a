/- hearsaylaw6.StampChecks returns true at every row of runs and every row of identifiers, and what there was reads as before. No condition. -/
import Derived.Test.YtdbnohlignpeaaaStRefHas
import Derived.Test.YtdbnohlignpeaaaStRowApp
import Derived.Test.YtdbnohlignpeaaaStOpen2
import Derived.Test.YtdbnohlignpeaaaStKnown
import Derived.Test.YtdbnohlignpeaaaRows
import Derived.WalkKit
import Derived.ProofKit
import Derived.OpenShut
import Derived.ShutString
import Derived.ChangeOld
import Derived.Below
import Derived.StillTailTactics
namespace Go.Proofs.Ytdbnohlignpeaaa
open Go.RowKit Go.Proofs.Ytdbnohlignpeaaa.St
namespace stampChecks
theorem wrapI_in (x : Int) : I64 (IntKind.i64.wrap x) := by
  rw [IntKind.wrap_i64]
  unfold I64
  omega
theorem wrap64_in (x : Int) : I64 (wrap64 x) := by
  unfold I64 wrap64
  omega
theorem own_snocE {α : Type} {E : Enc α} {w : World} {base n : Nat} {t : TypeId} {v : Value} {S : List α} {z : α} (h : w.ownsRow base t E.k v n (E.flat (S ++ [z]))) :
    ∃ g cap, v = .slice (some ⟨g, 0, none⟩) (S.length + 1) cap ∧ base ≤ g ∧ OwnAt E w t g cap (S ++ [z]) := by
  obtain ⟨hl, ⟨_, e⟩ | ⟨g, cap, h1, h2, h3⟩⟩ := own_of (E := E) h
  · simp at e
  · rw [List.length_append] at hl
    exact ⟨g, cap, by rw [h1, ← hl]; rfl, h2, h3⟩
theorem OwnAt.first {α : Type} {E : Enc α} {w : World} {g cap : Nat} {t : TypeId} {L : List α} {z : α} (h : OwnAt E w t g cap (L ++ [z])) : SlAt E w (.slice (some ⟨g, 0, none⟩) L.length cap) L := by
  have h1 := h.take L.length
  rw [List.take_left] at h1
  exact h1.slAt
theorem lit77 (w : World) : SlAt runE (w.alloc (.cells #[.int .i64 0, .int .i64 0, .int .i64 77] 35)) (.slice (some ⟨w.heap.size, 0, none⟩) 1 1) [(⟨⟨0, 0⟩, 77⟩ : Run)] := SlAt.lit (E := runE) [(⟨⟨0, 0⟩, 77⟩ : Run)] _ rfl (by decide)
theorem has_open {W : World} {v : Value} {L : List Run} (h : SlAt runE W v L) (hin : ∀ r ∈ L, r.In) (hb : L.length ≤ 400) (w : World) (hk : Kept (fun _ => False) W w) (t s : Int) :
    Calls Try.prog 24 #[v, .agg #[.int .i64 t, .int .i64 s]] w fun e w' => ∃ b, e = .returned (.bool b) ∧ HasIs L ⟨t, s⟩ b ∧ Kept (fun _ => False) w w' := has_any (h.kept hk) hin (by omega) ⟨t, s⟩
theorem rhas_open {W : World} {v : Value} {L : List Run} (h : SlAt runE W v L) (hin : ∀ r ∈ L, r.In) (hb : L.length ≤ 400) (w : World) (hk : Kept (fun _ => False) W w) (t s : Int) (ht : I64 t) :
    Calls Try.prog 25 #[v, .agg #[.int .i64 t, .int .i64 s]] w fun e w' => ∃ b, e = .returned (.bool b) ∧ HasIs L ⟨t, s⟩ b ∧ Kept (fun _ => False) w w' := rhas_any (h.kept hk) hin (by omega) ⟨t, s⟩ ht
set_option maxRecDepth 100000 in
set_option maxHeartbeats 4000000 in
theorem walk_core {w : World} {v u : Value} {L : List Run} {A : List ID} (h : SlAt runE w v L) (hin : ∀ r ∈ L, r.In) (h2 : SlAt idE w u A) (hin2 : ∀ x ∈ A, x.In) : Calls Try.prog 5 #[v, u] w fun e w' => e = .returned (.bool true) ∧ Kept (fun _ => False) w w' := by
  obtain ⟨a, c, rfl, hac, hcm⟩ := h.sl
  obtain ⟨a', c', rfl, hac', hcm'⟩ := h2.sl
  have HS := Lib.hid h
  have H2 := Lib.hid h2
  have HI := Lib.hid hin
  have HA := Lib.hid hin2
  clear h h2 hin hin2
  by_cases hbig : 400 < L.length
  · have hb1 : (400 : Int) < L.length := by omega
    clear hac hcm hac' hcm'
    go_enter Try.func5, Try.ntmps5
    go_wp2_with fail
    refine (known_any _).mono ?_
    rintro e w1 ⟨rfl, hk⟩
    go_wp2_with fail
    go_ret
    exact ⟨rfl, hk⟩
  by_cases hbig2 : 400 < A.length
  · have hb1 : (L.length : Int) ≤ 400 := by omega
    have hb2 : (400 : Int) < A.length := by omega
    clear hac hcm hac' hcm'
    go_enter Try.func5, Try.ntmps5
    go_wp2_with fail
    refine (known_any _).mono ?_
    rintro e w1 ⟨rfl, hk⟩
    go_wp2_with fail
    go_ret
    exact ⟨rfl, hk⟩
  have hb1 : (L.length : Int) ≤ 400 := by omega
  have hb2 : (A.length : Int) ≤ 400 := by omega
  have hLn : L.length ≤ 400 := by omega
  have hAn : A.length ≤ 400 := by omega
  go_enter Try.func5, Try.ntmps5
  go_wp2_with (first
    | (at_builtin; have hn2 := owns_new O1.out; (refine wpList_append_row runE rfl (.tmp 23) (.tmp 25) 29 rfl w.heap.size 35 (.agg #[.int .i64 0, .int .i64 0, .int .i64 0]) 24 Try.underlying29 info_run rfl rfl rfl (D := L) (L := [(⟨⟨0, 0⟩, 77⟩ : Run)]) (O1.out.alloc _) (lit77 w1) (by unfold maxLen; simp; omega) (by simp; omega) (by have := K1.out.size; simp; omega) ?_); intro v2 w2 ho2 hk2; have K2 := Lib.hid ((K1.out.alloc _).over hk2 hn2); obtain ⟨g, cap, rfl, hg, hO⟩ := own_snocE ho2; have hcap1 : L.length + 1 ≤ cap := (by have := hO.le.1; simpa using this); have hcap : L.length ≤ cap := (by omega); clear hk2 ho2 K1 O1 hn2)
    | (at_builtin; (refine wpList_append_row runE rfl (.tmp 20) (.tmp 21) 29 rfl w.heap.size 35 (.agg #[.int .i64 0, .int .i64 0, .int .i64 0]) 24 Try.underlying29 info_run rfl rfl rfl (D := []) (World.ownsRow_nil _ _ _ _) HS.out (by unfold maxLen; simp; omega) (by simp; omega) (by simp) ?_); intro v1 w1 ho1 hk1; rw [List.nil_append] at ho1; obtain ⟨ra, rc, rfl⟩ := owns_sl ho1; have K1 := Lib.hid ((Kept.refl (fun _ => False) w).over hk1 (fun b hb => by cases hb)); have O1 := Lib.hid ho1; clear hk1 ho1))
  refine (check_any (OwnAt.first hO) HI.out (by omega)).mono ?_
  rintro e w3 ⟨e3, rfl, hce, hk3⟩
  have O3 := Lib.hid (hO.keep hk3 (fun h => h))
  have K3 := Lib.hid (K2.out.trans hk3 (fun _ _ h => h))
  have C3 := Lib.hid hce
  clear hO hk3 hce K2
  go_wp2_with fail
  refine (rcheck_any (HS.out.kept K3.out) HI.out (by omega)).mono ?_
  rintro e w4 ⟨e4, rfl, hce4, hk4⟩
  obtain rfl := hce4.unique C3.out
  have O4 := Lib.hid (O3.out.keep hk4 (fun h => h))
  have K4 := Lib.hid (K3.out.trans hk4 (fun _ _ h => h))
  have hee : (e4 != e4) = false := by simp
  have HT := Lib.hid (has_open (OwnAt.first O4.out) HI.out hLn)
  have HL := Lib.hid (has_open (HS.out.kept K4.out) HI.out hLn)
  have RL := Lib.hid (rhas_open (HS.out.kept K4.out) HI.out hLn)
  clear O3 K3 C3 hce4 hk4
  go_wp2_with fail
  go_loopw [6] (fun iv wr => ∃ n : Nat, iv = .int .i64 n ∧ n ≤ A.length ∧ Kept (fun _ => False) w4 wr) (fun iv _ => A.length - (intOf iv).toNat)
  case atStart => exact ⟨0, rfl, Nat.zero_le _, Kept.refl _ _⟩
  case round =>
    obtain ⟨n, rfl, hn, hkw⟩ := hrel
    by_cases hlt : n < A.length
    case pos =>
      obtain ⟨x, hx⟩ := get_of_lt hlt
      obtain ⟨gi, o, ci, hv, hglt, hcs⟩ := SlAt.id (H2.out.kept (K4.out.trans hkw (fun _ _ h => h))) (by omega)
      cases hv
      obtain ⟨c0, c1⟩ := hcs n x hx
      have XI := Lib.hid (HA.out x (List.mem_of_getElem? hx)).1
      have hn0 : (0 : Int) ≤ n := by omega
      have hnl : (n : Int) < A.length := by omega
      have hkk : Kept (fun _ => False) w4 wr.drew := hkw.drew
      clear hx hcs hkw
      go_wp2_with fail
      go_region_held3 (fun w' => w'.cell? ⟨gi, o + n * 2, none⟩ = some (.int .i64 x.t) ∧ w'.cell? ⟨gi, o + n * 2 + 1, none⟩ = some (.int .i64 x.s)) (first | exact ⟨c0, c1⟩)
        (first
          | (go_simp; go_at_call 24; refine (HT.out _ hkk _ _).mono ?_; rintro e w5 ⟨b, rfl, hb5, hk5⟩; have c0 := old_cell hk5 c0; have c1 := old_cell hk5 c1; have hkk := hkk.trans hk5 (fun _ _ h => h); clear hk5)
          | (go_simp; go_at_call 25; refine (RL.out _ hkk _ _ XI.out).mono ?_; rintro e w6 ⟨b', rfl, hb6, hk6⟩; obtain rfl := hb6.unique hb5; have c0 := old_cell hk6 c0; have c1 := old_cell hk6 c1; have hkk := hkk.trans hk6 (fun _ _ h => h); have hbb : (b' != b') = false := (by simp); clear hk6))
      go_wp2_with fail
      go_roundw
      case rel => exact ⟨n + 1, by go_num, by omega, hkk⟩
      case measure => simp [intOf] <;> omega
    case neg =>
      have K5 := Lib.hid (K4.out.trans hkw (fun _ _ h => h))
      have KK := Lib.hid hkw
      clear hkw
      go_wp2_with fail
      go_loopw [7] (fun iv wr => ∃ n : Nat, iv = .int .i64 n ∧ n ≤ L.length ∧ Kept (fun _ => False) w4 wr) (fun iv _ => L.length - (intOf iv).toNat)
      case atStart => exact ⟨0, rfl, Nat.zero_le _, KK.out⟩
      case round =>
        clear K5 KK
        obtain ⟨n, rfl, hn, hkw⟩ := hrel
        have hn0 : (0 : Int) ≤ n := by omega
        by_cases hlt : n < L.length ∧ n < 20
        case pos =>
          obtain ⟨hl1, hl2⟩ := hlt
          obtain ⟨r, hr⟩ := get_of_lt hl1
          obtain ⟨gi, o, ci, hv, hglt, hcs⟩ := SlAt.run (HS.out.kept (K4.out.trans hkw (fun _ _ h => h))) (by omega)
          cases hv
          obtain ⟨c0, c1, c2⟩ := hcs n r hr
          have RI := Lib.hid (HI.out r (List.mem_of_getElem? hr))
          have hnl : (n : Int) < L.length := by omega
          have hn20 : (n : Int) < 20 := by omega
          have hB8 := Blk.new wr 23 #[.int .i64 r.id.t, .int .i64 r.id.s]
          have hk8 : Kept (fun _ => False) wr (wr.alloc (.cells #[.int .i64 r.id.t, .int .i64 r.id.s] 23)) := (Kept.refl _ _).alloc _
          have d0 := old_cell hk8 c0
          have d1 := old_cell hk8 c1
          have d2 := old_cell hk8 c2
          have b0 : _ = some (Value.int .i64 r.id.t) := hB8.cell' (i := 0) rfl
          have b1 : _ = some (Value.int .i64 r.id.s) := hB8.cell' (i := 1) rfl
          have K8 := Lib.hid (hkw.trans hk8 (fun _ _ h => h))
          have B8 := Lib.hid hB8
          clear hr hcs hk8 hB8
          go_wp2_with fail
          generalize hW8 : wr.alloc (.cells #[.int .i64 r.id.t, .int .i64 r.id.s] 23) = W8 at *
          have n0 := World.new_ne W8 _ b0
          have n2 := World.new_ne W8 _ d2
          go_region_held3 (fun w' => w'.cell? ⟨wr.heap.size, 0, none⟩ = some (.int .i64 r.id.t) ∧ w'.cell? ⟨wr.heap.size, 1, none⟩ = some (.int .i64 r.id.s) ∧ w'.cell? ⟨gi, o + n * 3 + 2, none⟩ = some (.int .i64 r.c)) (first | exact ⟨b0, b1, d2⟩ | go_keep) (fail)
          generalize hpv : IntKind.i64.wrap (IntKind.i64.wrap (r.id.t + r.c) - 1) = pv at *
          have PI := Lib.hid (show I64 pv from by rw [← hpv]; exact wrapI_in _)
          clear hpv
          have hB9 := (Blk.new W8 23 #[.int .i64 pv, .int .i64 r.id.s]).drewN 1
          have hk9 : Kept (fun _ => False) W8 (W8.alloc (.cells #[.int .i64 pv, .int .i64 r.id.s] 23)).drew := ((Kept.refl _ _).alloc _).drew
          have p0 : (W8.alloc (.cells #[.int .i64 pv, .int .i64 r.id.s] 23)).drew.cell? ⟨W8.heap.size, 0, none⟩ = some (Value.int .i64 pv) := hB9.cell' (i := 0) rfl
          have p1 : (W8.alloc (.cells #[.int .i64 pv, .int .i64 r.id.s] 23)).drew.cell? ⟨W8.heap.size, 1, none⟩ = some (Value.int .i64 r.id.s) := hB9.cell' (i := 1) rfl
          have b0 := old_cell hk9 b0
          have b1 := old_cell hk9 b1
          have d2 := old_cell hk9 d2
          have K9 := Lib.hid (K8.out.trans hk9 (fun _ _ h => h))
          clear hB9 hk9 K8 d0 d1 c0 c1 c2 B8
          generalize (W8.alloc (.cells #[.int .i64 pv, .int .i64 r.id.s] 23)).drew = W9 at *
          go_wp2_with fail
          have n0 := World.new_ne W9 _ b0
          have n2 := World.new_ne W9 _ d2
          go_region_held3 (fun w' => w'.cell? ⟨wr.heap.size, 0, none⟩ = some (.int .i64 r.id.t) ∧ w'.cell? ⟨wr.heap.size, 1, none⟩ = some (.int .i64 r.id.s) ∧ w'.cell? ⟨gi, o + n * 3 + 2, none⟩ = some (.int .i64 r.c)) (first | exact ⟨b0, b1, d2⟩ | go_keep) (fail)
          generalize hqv : IntKind.i64.wrap (r.id.t + r.c) = qv at *
          have QI := Lib.hid (show I64 qv from by rw [← hqv]; exact wrapI_in _)
          clear hqv
          have hB10 := (Blk.new W9 23 #[.int .i64 qv, .int .i64 r.id.s]).drewN 1
          have hk10 : Kept (fun _ => False) W9 (W9.alloc (.cells #[.int .i64 qv, .int .i64 r.id.s] 23)).drew := ((Kept.refl _ _).alloc _).drew
          have q0 : (W9.alloc (.cells #[.int .i64 qv, .int .i64 r.id.s] 23)).drew.cell? ⟨W9.heap.size, 0, none⟩ = some (Value.int .i64 qv) := hB10.cell' (i := 0) rfl
          have q1 : (W9.alloc (.cells #[.int .i64 qv, .int .i64 r.id.s] 23)).drew.cell? ⟨W9.heap.size, 1, none⟩ = some (Value.int .i64 r.id.s) := hB10.cell' (i := 1) rfl
          have b0 := old_cell hk10 b0
          have b1 := old_cell hk10 b1
          have p0 := old_cell hk10 p0
          have p1 := old_cell hk10 p1
          have hkk := (K9.out.trans hk10 (fun _ _ h => h)).drew
          clear hB10 hk10 K9 d2
          generalize (W9.alloc (.cells #[.int .i64 qv, .int .i64 r.id.s] 23)).drew = W10 at *
          go_wp2_with fail
          go_region_held3 (fun w' => w'.cell? ⟨wr.heap.size, 0, none⟩ = some (.int .i64 r.id.t) ∧ w'.cell? ⟨wr.heap.size, 1, none⟩ = some (.int .i64 r.id.s) ∧ w'.cell? ⟨W8.heap.size, 0, none⟩ = some (.int .i64 pv) ∧ w'.cell? ⟨W8.heap.size, 1, none⟩ = some (.int .i64 r.id.s) ∧ w'.cell? ⟨W9.heap.size, 0, none⟩ = some (.int .i64 qv) ∧ w'.cell? ⟨W9.heap.size, 1, none⟩ = some (.int .i64 r.id.s)) (first | exact ⟨b0, b1, p0, p1, q0, q1⟩)
            (first
              | (go_simp; go_at_call 24; refine (HL.out _ hkk _ _).mono ?_; rintro e w5 ⟨b, rfl, hb5, hk5⟩; have b0 := old_cell hk5 b0; have b1 := old_cell hk5 b1; have p0 := old_cell hk5 p0; have p1 := old_cell hk5 p1; have q0 := old_cell hk5 q0; have q1 := old_cell hk5 q1; have hkk := hkk.trans hk5 (fun _ _ h => h); clear hk5)
              | (go_simp; go_at_call 25; refine (RL.out _ hkk _ _ (by first | exact RI.out.1 | exact PI.out | exact QI.out)).mono ?_; rintro e w6 ⟨b', rfl, hb6, hk6⟩; obtain rfl := hb6.unique hb5; have b0 := old_cell hk6 b0; have b1 := old_cell hk6 b1; have p0 := old_cell hk6 p0; have p1 := old_cell hk6 p1; have q0 := old_cell hk6 q0; have q1 := old_cell hk6 q1; have hkk := hkk.trans hk6 (fun _ _ h => h); have hbb : (b' != b') = false := (by simp); clear hk6))
          go_wp2_with fail
          go_roundw
          case rel => exact ⟨n + 1, by go_num, by omega, hkk⟩
          case measure => simp [intOf] <;> omega
        case neg =>
          have KF := Lib.hid (K4.out.trans hkw (fun _ _ h => h))
          have hO5 := O4.out.keep hkw (fun h => h)
          have heq := runs_eq (OwnAt.first hO5) (HS.out.kept KF.out) (by omega)
          rw [decide_eq_true rfl] at heq
          obtain ⟨_, _, t2⟩ := OwnAt.run hO5 (i := L.length) (x := ⟨⟨0, 0⟩, 77⟩) (by simp)
          have hLz : (0 : Int) ≤ L.length := by omega
          clear hO5 hkw HT HL RL
          by_cases hl : n < L.length
          · have hl2 : (n : Int) < L.length := by omega
            have hn20 : ¬ (n : Int) < 20 := by omega
            clear hlt hl
            go_wp2_with fail
            refine heq.mono ?_
            rintro e w8 ⟨rfl, q8, rfl⟩
            have hk8 : Kept (fun _ => False) wr (wr.drewN q8) := (Kept.refl _ _).drewN _
            have t2 := old_cell hk8 t2
            have KG := Lib.hid (KF.out.trans hk8 (fun _ _ h => h))
            clear heq hk8
            generalize wr.drewN q8 = w8 at *
            go_wp2_with fail
            refine (known_any _).mono ?_
            rintro e w9 ⟨rfl, hk9⟩
            go_wp2_with fail
            go_ret
            exact ⟨rfl, KG.out.trans hk9 (fun _ _ h => h)⟩
          · have hl2 : ¬ (n : Int) < L.length := by omega
            clear hlt hl
            go_wp2_with fail
            refine heq.mono ?_
            rintro e w8 ⟨rfl, q8, rfl⟩
            have hk8 : Kept (fun _ => False) wr (wr.drewN q8) := (Kept.refl _ _).drewN _
            have t2 := old_cell hk8 t2
            have KG := Lib.hid (KF.out.trans hk8 (fun _ _ h => h))
            clear heq hk8
            generalize wr.drewN q8 = w8 at *
            go_wp2_with fail
            refine (known_any _).mono ?_
            rintro e w9 ⟨rfl, hk9⟩
            go_wp2_with fail
            go_ret
            exact ⟨rfl, KG.out.trans hk9 (fun _ _ h => h)⟩
theorem walk (v0 : Value) (z0 : List Run) (v1 : Value) (z1 : List ID) {w0 w1 : World} (h0 : SlAt runE w0 v0 z0 ∧ ∀ x ∈ z0, x.In) (h1 : SlAt idE w1 v1 z1 ∧ ∀ x ∈ z1, x.In) (w : World) (hw : w = w0) (hw1 : w = w1 := by first | assumption | rfl) : Calls Try.prog 5 #[v0, v1] w fun e w' => e = .returned (.bool true) ∧ Below w.heap.size w w' := by
  subst hw
  subst hw1
  exact (walk_core h0.1 h0.2 h1.1 h1.2).mono fun e w' ⟨he, hk⟩ => ⟨he, hk.below (Nat.le_refl _) (fun _ _ h => h)⟩
end stampChecks

namespace stampChecks
open Go.ChangeShapes Go.WideShapes Go.ChangeAt Go.RowKit
open Go.ChangeMaps (open_string shut_string)
theorem own : ownKnob Try.prog.godebug = none := by kernel_rfl
theorem laidOut : laidOutB Try.prog = true := by kernel_rfl
set_option maxRecDepth 100000 in
theorem lifted (os : Os) (started : os.Started) (H : Type) (enc : TypeId × Value → H) :
    ReturnsInHanded {} Try.checked os 5 .any (Rows.stampChecksSpec.pre6 enc Try.prog Try.f5 Rows.stampChecksRow.domain false) (Rows.stampChecksSpec.post enc Try.prog Try.f5 false true false false) := by
  refine returnsInHanded_of_change (C := Try.checked) own started (by kernel_rfl) Try.func5
    (ChangeSpec.witness6 (enc := enc) (C := Try.checked) false ⟨#[], #[.slice none 0 0, .slice none 0 0], []⟩ 8 (by kernel_rfl) (by kernel_rfl) (by kernel_rfl) (by kernel_rfl)) ?_
  intro W base args ds gs before hval0 hW hcnd _
  have hval : ∀ (j : Nat) t v, Try.f5.params[j]? = some t → args[j]? = some v → Value.okWide Try.prog W .any base t v := hval0
  have hW' := hW
  obtain ⟨p, q, hA0, hV, rfl, hfz, hnd⟩ := hW
  have hA : DataW.TrodAll enc Try.prog W 0 (fun _ => true) true Try.f5.params.toList args.toList ds p := hA0
  rw [Try.params5] at hA hval
  obtain ⟨v0, vs0, d0, ds0, p0, q0, hargs, rfl, rfl, h0, r0⟩ := trodAll_cons hA
  obtain ⟨v1, vs1, d1, ds1, p1, q1, rfl, rfl, rfl, h1, r1⟩ := trodAll_cons r0
  obtain ⟨rfl, rfl, rfl⟩ := trodAll_nil r1
  obtain rfl : args = #[v0, v1] := by cases args; simp_all
  obtain ⟨rfl, rfl⟩ := trodVars_none hV
  have k0 := h0
  have lt0 : ∀ x ∈ p0, x.block < W.heap.size := by obtain ⟨m, hm⟩ := k0; exact DataW.trod_lt m _ _ _ hm
  obtain ⟨z0, w0⟩ := open_runs (hval 0 29 v0 rfl rfl) h0
  have k1 := h1
  have lt1 : ∀ x ∈ p1, x.block < W.heap.size := by obtain ⟨m, hm⟩ := k1; exact DataW.trod_lt m _ _ _ hm
  obtain ⟨z1, w1⟩ := open_ids (hval 1 28 v1 rfl rfl) h1
  clear hA0 hval0
  refine (walk v0 z0 v1 z1 w0 w1 W rfl).mono fun e W' ⟨he, bel⟩ => ?_
  subst he
  exact ⟨_, rfl, _, _, _, [], _, [], hW', trodAll_mk1 (shut_bool Try.underlying4 _), (trodAll_cons_mk (Below.trod laidOut (by kernel_rfl) (of_decide_eq_true (by kernel_rfl)) k0 bel lt0) (trodAll_cons_mk (Below.trod laidOut (by kernel_rfl) (of_decide_eq_true (by kernel_rfl)) k1 bel lt1) trodAll_mk0)), rfl, bel.frame _, fun h => by cases h⟩

theorem over : Rows.stampChecksRow.holds Try.pinned (OpenSpec.ofChange Rows.stampChecksSpec) :=
  OpenClaim.holds_of_wide 5 Try.f5 rfl rfl rfl rfl rfl rfl rfl ⟨rfl, rfl, rfl, rfl, rfl⟩ rfl rfl rfl rfl rfl (by kernel_rfl) Try.func5 (by kernel_rfl)
    (of_decide_eq_true (by kernel_rfl)) (by unfold Func.isWrapper; first | (rw [if_pos (by decide +kernel)]; kernel_rfl) | (rw [if_neg (by decide +kernel)]; exact ⟨rfl, rfl⟩))
    (fun os started H enc _ => lifted os started H enc)
theorem proved : Rows.StampChecksSaid := over
end stampChecks


end Go.Proofs.Ytdbnohlignpeaaa
