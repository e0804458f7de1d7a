/- TreeNothing, walked. hearsaylaw11.TreeNothing returns true at every script of steps, and what there was reads as before. No condition. -/
import Derived.Test.YtlafodnaifghcaaT32
import Derived.Test.YtlafodnaifghcaaT33
import Derived.Test.YtlafodnaifghcaaT39
import Derived.Test.YtlafodnaifghcaaRows
import Derived.WalkKit
import Derived.ProofKit
import Derived.OpenShut
import Derived.ShutString
import Derived.ChangeOld
import Derived.Below
namespace Go.Proofs.Ytlafodnaifghcaa.Tr
open Go.RowKit Go.Sort Go.Proofs.Ytlafodnaifghcaa.St
/-- a step and an identifier in boxes -/
structure NoJ (w : World) (z za : Nat) (x : StV) (W : World) : Prop where
  kept : Kept (fun _ => False) w W
  bx : Blk W z 30 (stC x).toArray
  ba : Blk W za 27 #[.int .i64 0, .int .i64 0]
theorem NoJ.still {w W W' : World} {z za : Nat} {x : StV} (h : NoJ w z za x W) (hk : Kept (fun _ => False) W W') : NoJ w z za x W' :=
  ⟨h.kept.trans hk fun _ _ h => h, hk.blk (fun h => h) h.bx, hk.blk (fun h => h) h.ba⟩
set_option maxRecDepth 100000 in
set_option maxHeartbeats 8000000 in
theorem noth_any {w : World} {v : Value} {L : List StV} (h : SlAt stE w v L) (ht : ∀ s ∈ L, s.text.size ≤ maxLen) :
    Calls Try.prog 3 #[v] w fun e w' => e = .returned (.bool true) ∧ Kept (fun _ => False) w w' := by
  obtain ⟨la, lc, rfl, _, _⟩ := h.sl
  have HL := Lib.hid h
  have MU := Lib.hid (much_any h ht)
  clear h ht
  go_enter Try.func3, Try.ntmps3
  go_wp2_with (first | (go_at_call 8; refine MU.out.mono ?_; rintro e w1 ⟨b, rfl, hfew, rfl⟩) | (go_at_call 9; refine (known_any _).mono ?_; rintro e w1 ⟨rfl, hk⟩))
  · go_ret
    exact ⟨rfl, hk⟩
  have hbf : b = false := by assumption
  subst hbf
  have FW := Lib.hid (hfew rfl)
  have FL := FW.out.len
  clear hfew MU
  go_loopw [4] (fun iv wr => ∃ n : Nat, iv = .int .i64 n ∧ n ≤ L.length ∧ Kept (fun _ => False) w wr) (fun iv _ => L.length - (intOf iv).toNat)
  case atStart => exact ⟨0, rfl, Nat.zero_le _, Kept.refl _ _⟩
  case round =>
    obtain ⟨n, rfl, hn, hk⟩ := hrel
    have hn0 : (0 : Int) ≤ n := by omega
    by_cases hlt : n < L.length
    case neg =>
      have hnl : ¬ (n : Int) < L.length := by omega
      have HK := Lib.hid hk
      clear hk
      go_wp2_with (go_at_call 9; refine (known_any _).mono ?_; rintro e w1 ⟨rfl, hk⟩)
      go_ret
      exact ⟨rfl, HK.out.trans hk fun _ _ h => h⟩
    case pos =>
      have hnl : (n : Int) < L.length := by omega
      obtain ⟨x, hx⟩ := get_of_lt hlt
      obtain ⟨g, o, c', e2, _, hcs⟩ := SlAt.stepc (HL.out.kept hk) (by omega)
      cases e2
      obtain ⟨c0, c1, c2, c3, c4, c5, c6, c7, c8⟩ := hcs n x hx
      have e1 : IntKind.i64.wrap ((n : Int) + 1) = (n : Int) + 1 := IntWalk.i64_in _ (by omega)
      have hB := Blk.new wr 30 (stC x).toArray
      have hk1 : Kept (fun _ => False) wr (wr.alloc (.cells (stC x).toArray 30)) := (Kept.refl _ _).alloc _
      have stc : (stC x).toArray = #[.int .i64 x.kind, .int .i64 x.id.t, .int .i64 x.id.s, .int .i64 x.ref.t, .int .i64 x.ref.s, .string x.text, .slice x.runs.a x.runs.n x.runs.c, .int .i64 x.i, .int .i64 x.n] := rfl
      rw [stc] at hk1 hB
      have HK := Lib.hid (hk.trans hk1 fun _ _ h => h)
      have HB := Lib.hid hB
      clear hcs hx hk hk1 hB stc
      go_upto_region 8 with fail
      obtain ⟨z, hz⟩ : ∃ z, wr.heap.size = z := ⟨_, rfl⟩
      obtain ⟨W0, hW0⟩ : ∃ W0, (wr.alloc (.cells #[.int .i64 x.kind, .int .i64 x.id.t, .int .i64 x.id.s, .int .i64 x.ref.t, .int .i64 x.ref.s, .string x.text, .slice x.runs.a x.runs.n x.runs.c, .int .i64 x.i, .int .i64 x.n] 30)) = W0 := ⟨_, rfl⟩
      rw [hz] at HB ⊢
      rw [hW0] at HB HK ⊢
      clear hz hW0 c0 c1 c2 c3 c4 c5 c6 c7 c8
      have c7 := HB.out.cell' (i := 7) (v := .int .i64 x.i) rfl
      go_upto_region 9 with (go_at_call 10; refine (at_nil _ _).mono ?_; rintro e w' ⟨rfl, hk2⟩)
      have hJ : NoJ w z w'.heap.size x (w'.alloc (.cells #[.int .i64 0, .int .i64 0] 27)) :=
        ⟨(HK.out.trans hk2 fun _ _ h => h).alloc _, (hk2.blk (fun h => h) HB.out).alloc _, Blk.new _ _ _⟩
      have K := Lib.hid hJ
      obtain ⟨za, hza⟩ : ∃ za, w'.heap.size = za := ⟨_, rfl⟩
      obtain ⟨W1, hW1⟩ : ∃ W1, (w'.alloc (.cells #[.int .i64 0, .int .i64 0] 27)) = W1 := ⟨_, rfl⟩
      rw [hza, hW1] at K
      rw [hza, hW1]
      clear hza hW1 hJ hk2 HB HK c7
      have c0 := K.out.bx.cell' (i := 0) (v := .int .i64 x.kind) rfl
      have c1 := K.out.bx.cell' (i := 1) (v := .int .i64 x.id.t) rfl
      have c2 := K.out.bx.cell' (i := 2) (v := .int .i64 x.id.s) rfl
      have c3 := K.out.bx.cell' (i := 3) (v := .int .i64 x.ref.t) rfl
      have c4 := K.out.bx.cell' (i := 4) (v := .int .i64 x.ref.s) rfl
      have c5 := K.out.bx.cell' (i := 5) (v := .string x.text) rfl
      have c6 := K.out.bx.cell' (i := 6) (v := .slice x.runs.a x.runs.n x.runs.c) rfl
      have c7 := K.out.bx.cell' (i := 7) (v := .int .i64 x.i) rfl
      have c8 := K.out.bx.cell' (i := 8) (v := .int .i64 x.n) rfl
      have a0 := K.out.ba.cell' (i := 0) (v := .int .i64 0) rfl
      have a1 := K.out.ba.cell' (i := 1) (v := .int .i64 0) rfl
      go_wp2_with (first
        | (go_at_call 11; refine (span_nil _ _ _).mono ?_; rintro e w' ⟨rfl, hk⟩; have K := Lib.hid (K.out.still hk); have c0 := K.out.bx.cell' (i := 0) (v := .int .i64 x.kind) rfl; have c1 := K.out.bx.cell' (i := 1) (v := .int .i64 x.id.t) rfl; have c2 := K.out.bx.cell' (i := 2) (v := .int .i64 x.id.s) rfl; have c3 := K.out.bx.cell' (i := 3) (v := .int .i64 x.ref.t) rfl; have c4 := K.out.bx.cell' (i := 4) (v := .int .i64 x.ref.s) rfl; have c5 := K.out.bx.cell' (i := 5) (v := .string x.text) rfl; have c6 := K.out.bx.cell' (i := 6) (v := .slice x.runs.a x.runs.n x.runs.c) rfl; have c7 := K.out.bx.cell' (i := 7) (v := .int .i64 x.i) rfl; have c8 := K.out.bx.cell' (i := 8) (v := .int .i64 x.n) rfl; have a0 := K.out.ba.cell' (i := 0) (v := .int .i64 0) rfl; have a1 := K.out.ba.cell' (i := 1) (v := .int .i64 0) rfl)
        | (go_at_call 12; refine (find_nil x.id _).mono ?_; rintro e w' ⟨rfl, hk⟩; have K := Lib.hid (K.out.still hk); have c0 := K.out.bx.cell' (i := 0) (v := .int .i64 x.kind) rfl; have c1 := K.out.bx.cell' (i := 1) (v := .int .i64 x.id.t) rfl; have c2 := K.out.bx.cell' (i := 2) (v := .int .i64 x.id.s) rfl; have c3 := K.out.bx.cell' (i := 3) (v := .int .i64 x.ref.t) rfl; have c4 := K.out.bx.cell' (i := 4) (v := .int .i64 x.ref.s) rfl; have c5 := K.out.bx.cell' (i := 5) (v := .string x.text) rfl; have c6 := K.out.bx.cell' (i := 6) (v := .slice x.runs.a x.runs.n x.runs.c) rfl; have c7 := K.out.bx.cell' (i := 7) (v := .int .i64 x.i) rfl; have c8 := K.out.bx.cell' (i := 8) (v := .int .i64 x.n) rfl; have a0 := K.out.ba.cell' (i := 0) (v := .int .i64 0) rfl; have a1 := K.out.ba.cell' (i := 1) (v := .int .i64 0) rfl)
        | (go_at_call 13; refine (insert_nil x.id x.ref x.text _).mono ?_; rintro e w' ⟨rfl, hk⟩; have K := Lib.hid (K.out.still hk.kept); have c0 := K.out.bx.cell' (i := 0) (v := .int .i64 x.kind) rfl; have c1 := K.out.bx.cell' (i := 1) (v := .int .i64 x.id.t) rfl; have c2 := K.out.bx.cell' (i := 2) (v := .int .i64 x.id.s) rfl; have c3 := K.out.bx.cell' (i := 3) (v := .int .i64 x.ref.t) rfl; have c4 := K.out.bx.cell' (i := 4) (v := .int .i64 x.ref.s) rfl; have c5 := K.out.bx.cell' (i := 5) (v := .string x.text) rfl; have c6 := K.out.bx.cell' (i := 6) (v := .slice x.runs.a x.runs.n x.runs.c) rfl; have c7 := K.out.bx.cell' (i := 7) (v := .int .i64 x.i) rfl; have c8 := K.out.bx.cell' (i := 8) (v := .int .i64 x.n) rfl; have a0 := K.out.ba.cell' (i := 0) (v := .int .i64 0) rfl; have a1 := K.out.ba.cell' (i := 1) (v := .int .i64 0) rfl)
        | (go_at_call 14; refine (delete_nil _ _ _ _).mono ?_; rintro e w' ⟨rfl, hk⟩; have K := Lib.hid (K.out.still hk); have c0 := K.out.bx.cell' (i := 0) (v := .int .i64 x.kind) rfl; have c1 := K.out.bx.cell' (i := 1) (v := .int .i64 x.id.t) rfl; have c2 := K.out.bx.cell' (i := 2) (v := .int .i64 x.id.s) rfl; have c3 := K.out.bx.cell' (i := 3) (v := .int .i64 x.ref.t) rfl; have c4 := K.out.bx.cell' (i := 4) (v := .int .i64 x.ref.s) rfl; have c5 := K.out.bx.cell' (i := 5) (v := .string x.text) rfl; have c6 := K.out.bx.cell' (i := 6) (v := .slice x.runs.a x.runs.n x.runs.c) rfl; have c7 := K.out.bx.cell' (i := 7) (v := .int .i64 x.i) rfl; have c8 := K.out.bx.cell' (i := 8) (v := .int .i64 x.n) rfl; have a0 := K.out.ba.cell' (i := 0) (v := .int .i64 0) rfl; have a1 := K.out.ba.cell' (i := 1) (v := .int .i64 0) rfl)
        | (go_at_call 15; refine (settle_nil _ _ _ _).mono ?_; rintro e w' ⟨rfl, hk⟩; have K := Lib.hid (K.out.still hk); have c0 := K.out.bx.cell' (i := 0) (v := .int .i64 x.kind) rfl; have c1 := K.out.bx.cell' (i := 1) (v := .int .i64 x.id.t) rfl; have c2 := K.out.bx.cell' (i := 2) (v := .int .i64 x.id.s) rfl; have c3 := K.out.bx.cell' (i := 3) (v := .int .i64 x.ref.t) rfl; have c4 := K.out.bx.cell' (i := 4) (v := .int .i64 x.ref.s) rfl; have c5 := K.out.bx.cell' (i := 5) (v := .string x.text) rfl; have c6 := K.out.bx.cell' (i := 6) (v := .slice x.runs.a x.runs.n x.runs.c) rfl; have c7 := K.out.bx.cell' (i := 7) (v := .int .i64 x.i) rfl; have c8 := K.out.bx.cell' (i := 8) (v := .int .i64 x.n) rfl; have a0 := K.out.ba.cell' (i := 0) (v := .int .i64 0) rfl; have a1 := K.out.ba.cell' (i := 1) (v := .int .i64 0) rfl)
        | (go_at_call 16; refine (coll_nil _).mono ?_; rintro e w' ⟨rfl, hk⟩; have K := Lib.hid (K.out.still hk); have c0 := K.out.bx.cell' (i := 0) (v := .int .i64 x.kind) rfl; have c1 := K.out.bx.cell' (i := 1) (v := .int .i64 x.id.t) rfl; have c2 := K.out.bx.cell' (i := 2) (v := .int .i64 x.id.s) rfl; have c3 := K.out.bx.cell' (i := 3) (v := .int .i64 x.ref.t) rfl; have c4 := K.out.bx.cell' (i := 4) (v := .int .i64 x.ref.s) rfl; have c5 := K.out.bx.cell' (i := 5) (v := .string x.text) rfl; have c6 := K.out.bx.cell' (i := 6) (v := .slice x.runs.a x.runs.n x.runs.c) rfl; have c7 := K.out.bx.cell' (i := 7) (v := .int .i64 x.i) rfl; have c8 := K.out.bx.cell' (i := 8) (v := .int .i64 x.n) rfl; have a0 := K.out.ba.cell' (i := 0) (v := .int .i64 0) rfl; have a1 := K.out.ba.cell' (i := 1) (v := .int .i64 0) rfl)
        | (go_at_call 17; refine (text_nil0 _).mono ?_; rintro e w' ⟨rfl, hk⟩; have K := Lib.hid (K.out.still hk); have c0 := K.out.bx.cell' (i := 0) (v := .int .i64 x.kind) rfl; have c1 := K.out.bx.cell' (i := 1) (v := .int .i64 x.id.t) rfl; have c2 := K.out.bx.cell' (i := 2) (v := .int .i64 x.id.s) rfl; have c3 := K.out.bx.cell' (i := 3) (v := .int .i64 x.ref.t) rfl; have c4 := K.out.bx.cell' (i := 4) (v := .int .i64 x.ref.s) rfl; have c5 := K.out.bx.cell' (i := 5) (v := .string x.text) rfl; have c6 := K.out.bx.cell' (i := 6) (v := .slice x.runs.a x.runs.n x.runs.c) rfl; have c7 := K.out.bx.cell' (i := 7) (v := .int .i64 x.i) rfl; have c8 := K.out.bx.cell' (i := 8) (v := .int .i64 x.n) rfl; have a0 := K.out.ba.cell' (i := 0) (v := .int .i64 0) rfl; have a1 := K.out.ba.cell' (i := 1) (v := .int .i64 0) rfl)
        | (go_at_call 18; refine (len_nil _).mono ?_; rintro e w' ⟨rfl, hk⟩; have K := Lib.hid (K.out.still hk); have c0 := K.out.bx.cell' (i := 0) (v := .int .i64 x.kind) rfl; have c1 := K.out.bx.cell' (i := 1) (v := .int .i64 x.id.t) rfl; have c2 := K.out.bx.cell' (i := 2) (v := .int .i64 x.id.s) rfl; have c3 := K.out.bx.cell' (i := 3) (v := .int .i64 x.ref.t) rfl; have c4 := K.out.bx.cell' (i := 4) (v := .int .i64 x.ref.s) rfl; have c5 := K.out.bx.cell' (i := 5) (v := .string x.text) rfl; have c6 := K.out.bx.cell' (i := 6) (v := .slice x.runs.a x.runs.n x.runs.c) rfl; have c7 := K.out.bx.cell' (i := 7) (v := .int .i64 x.i) rfl; have c8 := K.out.bx.cell' (i := 8) (v := .int .i64 x.n) rfl; have a0 := K.out.ba.cell' (i := 0) (v := .int .i64 0) rfl; have a1 := K.out.ba.cell' (i := 1) (v := .int .i64 0) rfl)
        | (go_at_call 19; refine (kept_nil _).mono ?_; rintro e w' ⟨rfl, rfl⟩; have K := Lib.hid (K.out.still (Kept.refl _ _)); have c0 := K.out.bx.cell' (i := 0) (v := .int .i64 x.kind) rfl; have c1 := K.out.bx.cell' (i := 1) (v := .int .i64 x.id.t) rfl; have c2 := K.out.bx.cell' (i := 2) (v := .int .i64 x.id.s) rfl; have c3 := K.out.bx.cell' (i := 3) (v := .int .i64 x.ref.t) rfl; have c4 := K.out.bx.cell' (i := 4) (v := .int .i64 x.ref.s) rfl; have c5 := K.out.bx.cell' (i := 5) (v := .string x.text) rfl; have c6 := K.out.bx.cell' (i := 6) (v := .slice x.runs.a x.runs.n x.runs.c) rfl; have c7 := K.out.bx.cell' (i := 7) (v := .int .i64 x.i) rfl; have c8 := K.out.bx.cell' (i := 8) (v := .int .i64 x.n) rfl; have a0 := K.out.ba.cell' (i := 0) (v := .int .i64 0) rfl; have a1 := K.out.ba.cell' (i := 1) (v := .int .i64 0) rfl)
        | (go_at_call 20; refine (nodes_nil _).mono ?_; rintro e w' ⟨rfl, hk⟩; have K := Lib.hid (K.out.still hk); have c0 := K.out.bx.cell' (i := 0) (v := .int .i64 x.kind) rfl; have c1 := K.out.bx.cell' (i := 1) (v := .int .i64 x.id.t) rfl; have c2 := K.out.bx.cell' (i := 2) (v := .int .i64 x.id.s) rfl; have c3 := K.out.bx.cell' (i := 3) (v := .int .i64 x.ref.t) rfl; have c4 := K.out.bx.cell' (i := 4) (v := .int .i64 x.ref.s) rfl; have c5 := K.out.bx.cell' (i := 5) (v := .string x.text) rfl; have c6 := K.out.bx.cell' (i := 6) (v := .slice x.runs.a x.runs.n x.runs.c) rfl; have c7 := K.out.bx.cell' (i := 7) (v := .int .i64 x.i) rfl; have c8 := K.out.bx.cell' (i := 8) (v := .int .i64 x.n) rfl; have a0 := K.out.ba.cell' (i := 0) (v := .int .i64 0) rfl; have a1 := K.out.ba.cell' (i := 1) (v := .int .i64 0) rfl)
        | (go_at_call 21; refine (lshown_nil _).mono ?_; rintro e w' ⟨rfl, hk⟩; have K := Lib.hid (K.out.still hk); have c0 := K.out.bx.cell' (i := 0) (v := .int .i64 x.kind) rfl; have c1 := K.out.bx.cell' (i := 1) (v := .int .i64 x.id.t) rfl; have c2 := K.out.bx.cell' (i := 2) (v := .int .i64 x.id.s) rfl; have c3 := K.out.bx.cell' (i := 3) (v := .int .i64 x.ref.t) rfl; have c4 := K.out.bx.cell' (i := 4) (v := .int .i64 x.ref.s) rfl; have c5 := K.out.bx.cell' (i := 5) (v := .string x.text) rfl; have c6 := K.out.bx.cell' (i := 6) (v := .slice x.runs.a x.runs.n x.runs.c) rfl; have c7 := K.out.bx.cell' (i := 7) (v := .int .i64 x.i) rfl; have c8 := K.out.bx.cell' (i := 8) (v := .int .i64 x.n) rfl; have a0 := K.out.ba.cell' (i := 0) (v := .int .i64 0) rfl; have a1 := K.out.ba.cell' (i := 1) (v := .int .i64 0) rfl))
      go_roundw
      case rel => exact ⟨n + 1, by go_num, by omega, K.out.kept⟩
      case measure => simp [intOf]; omega
end Go.Proofs.Ytlafodnaifghcaa.Tr
namespace Go.Proofs.Ytlafodnaifghcaa
open Go.RowKit Go.Proofs.Ytlafodnaifghcaa.St Go.Proofs.Ytlafodnaifghcaa.Tr
namespace treeNothing
theorem walk (v0 : Value) (z0 : List StV) {w0 : World} (h0 : SlAt stE w0 v0 z0 ∧ ∀ s ∈ z0, ∃ rs, StepIn w0 s rs) (w : World) (hw : w = w0) :
    Calls Try.prog 3 #[v0] w fun e w' => e = .returned (.bool true) ∧ Below w.heap.size w w' := by
  subst hw
  exact (noth_any h0.1 (fun s hs => by obtain ⟨rs, h⟩ := h0.2 s hs; exact h.text)).mono fun e w' ⟨he, hk⟩ => ⟨he, hk.below (Nat.le_refl _) (fun _ _ h => h)⟩
end treeNothing

namespace treeNothing
open Go.ChangeShapes Go.WideShapes Go.ChangeAt Go.RowKit
open Go.ChangeMaps (open_string shut_string)
theorem own : ownKnob Try.prog.godebug = none := by kernel_rfl
theorem laidOut : laidOutB Try.prog = true := by kernel_rfl
set_option maxRecDepth 100000 in
theorem lifted (os : Os) (started : os.Started) (H : Type) (enc : TypeId × Value → H) :
    ReturnsInHanded {} Try.checked os 3 .any (Rows.treeNothingSpec.pre6 enc Try.prog Try.f3 Rows.treeNothingRow.domain false) (Rows.treeNothingSpec.post enc Try.prog Try.f3 false true false false) := by
  refine returnsInHanded_of_change (C := Try.checked) own started (by kernel_rfl) Try.func3
    (ChangeSpec.witness6 (enc := enc) (C := Try.checked) false ⟨#[], #[.slice none 0 0], []⟩ 8 (by kernel_rfl) (by kernel_rfl) (by kernel_rfl) (by kernel_rfl)) ?_
  intro W base args ds gs before hval0 hW hcnd _
  have hval : ∀ (j : Nat) t v, Try.f3.params[j]? = some t → args[j]? = some v → Value.okWide Try.prog W .any base t v := hval0
  have hW' := hW
  obtain ⟨p, q, hA0, hV, rfl, hfz, hnd⟩ := hW
  have hA : DataW.TrodAll enc Try.prog W 0 (fun _ => true) true Try.f3.params.toList args.toList ds p := hA0
  rw [Try.params3] at hA hval
  obtain ⟨v0, vs0, d0, ds0, p0, q0, hargs, rfl, rfl, h0, r0⟩ := trodAll_cons hA
  obtain ⟨rfl, rfl, rfl⟩ := trodAll_nil r0
  obtain rfl : args = #[v0] := by cases args; simp_all
  obtain ⟨rfl, rfl⟩ := trodVars_none hV
  have k0 := h0
  have lt0 : ∀ x ∈ p0, x.block < W.heap.size := by obtain ⟨m, hm⟩ := k0; exact DataW.trod_lt m _ _ _ hm
  obtain ⟨z0, w0⟩ := open_steps (hval 0 22 v0 rfl rfl) h0
  clear hA0 hval0
  refine (walk v0 z0 w0 W rfl).mono fun e W' ⟨he, bel⟩ => ?_
  subst he
  exact ⟨_, rfl, _, _, _, [], _, [], hW', trodAll_mk1 (shut_bool Try.underlying4 _), (trodAll_cons_mk (Below.trod laidOut (by kernel_rfl) (of_decide_eq_true (by kernel_rfl)) k0 bel lt0) trodAll_mk0), rfl, bel.frame _, fun h => by cases h⟩

theorem over : Rows.treeNothingRow.holds Try.pinned (OpenSpec.ofChange Rows.treeNothingSpec) :=
  OpenClaim.holds_of_wide 3 Try.f3 rfl rfl rfl rfl rfl rfl rfl ⟨rfl, rfl, rfl, rfl, rfl⟩ rfl rfl rfl rfl rfl (by kernel_rfl) Try.func3 (by kernel_rfl)
    (of_decide_eq_true (by kernel_rfl)) (by unfold Func.isWrapper; first | (rw [if_pos (by decide +kernel)]; kernel_rfl) | (rw [if_neg (by decide +kernel)]; exact ⟨rfl, rfl⟩))
    (fun os started H enc _ => lifted os started H enc)
theorem proved : Rows.TreeNothingSaid := over
end treeNothing

end Go.Proofs.Ytlafodnaifghcaa
