/- hearsaylaw6.StampPacks returns true at every row of identifiers, identifier and int, and what there was reads as before. No condition. -/
import Derived.Test.YtdbnohlignpeaaaStRefPack
import Derived.Test.YtdbnohlignpeaaaStRowApp
import Derived.Test.YtdbnohlignpeaaaStOpen2
import Derived.Test.YtdbnohlignpeaaaStKnown
import Derived.Test.YtdbnohlignpeaaaRows
import Derived.WalkKit
import Derived.ProofKit
import Derived.OpenShut
import Derived.ShutString
import Derived.ChangeOld
import Derived.Below
namespace Go.Proofs.Ytdbnohlignpeaaa
open Go.RowKit Go.Proofs.Ytdbnohlignpeaaa.St
namespace stampPacks
theorem lit77 (w : World) : SlAt idE (w.alloc (.cells #[.int .i64 77, .int .i64 7] 23)) (.slice (some ⟨w.heap.size, 0, none⟩) 1 1) [(⟨77, 7⟩ : ID)] := SlAt.lit (E := idE) [(⟨77, 7⟩ : ID)] _ rfl (by decide)
theorem own_snocE {α : Type} {E : Enc α} {w : World} {base n : Nat} {t : TypeId} {v : Value} {S : List α} {z : α} (h : w.ownsRow base t E.k v n (E.flat (S ++ [z]))) :
    ∃ g cap, v = .slice (some ⟨g, 0, none⟩) (S.length + 1) cap ∧ base ≤ g ∧ OwnAt E w t g cap (S ++ [z]) := by
  obtain ⟨hl, ⟨_, e⟩ | ⟨g, cap, h1, h2, h3⟩⟩ := own_of (E := E) h
  · simp at e
  · rw [List.length_append] at hl
    exact ⟨g, cap, by rw [h1, ← hl]; rfl, h2, h3⟩
theorem OwnAt.first {α : Type} {E : Enc α} {w : World} {g cap : Nat} {t : TypeId} {L : List α} {z : α} (h : OwnAt E w t g cap (L ++ [z])) : SlAt E w (.slice (some ⟨g, 0, none⟩) L.length cap) L := by
  have h1 := h.take L.length
  rw [List.take_left] at h1
  exact h1.slAt
set_option maxRecDepth 100000 in
set_option maxHeartbeats 4000000 in
theorem walk_core {w : World} {v : Value} {L : List ID} (h : SlAt idE w v L) (xt xs i : Int) (hi : I64 i) : Calls Try.prog 4 #[v, .agg #[.int .i64 xt, .int .i64 xs], .int .i64 i] w fun e w' => e = .returned (.bool true) ∧ Kept (fun _ => False) w w' := by
  obtain ⟨a, c, rfl, hac, hcm⟩ := h.sl
  have hk0 : Kept (fun _ => False) w (w.alloc (.cells #[.int .i64 xt, .int .i64 xs] 23)) := (Kept.refl _ _).alloc _
  have hb0 := Blk.new w 23 #[.int .i64 xt, .int .i64 xs]
  have HI := Lib.hid hi
  have HS := Lib.hid h
  have H0 := Lib.hid (h.kept hk0)
  have K0 := Lib.hid hk0
  have B0 := Lib.hid hb0
  clear h hi hk0 hb0
  by_cases hbig : 400 < L.length
  · have hb1 : (400 : Int) < L.length := by omega
    clear hac hcm
    go_enter Try.func4, Try.ntmps4
    go_wp2_with fail
    refine (known_any _).mono ?_
    rintro e w1 ⟨rfl, hk⟩
    go_wp2_with fail
    go_ret
    exact ⟨rfl, K0.out.trans hk (fun _ _ h => h)⟩
  · have hb1 : (L.length : Int) ≤ 400 := by omega
    have hLn : L.length ≤ 400 := by omega
    have hbase : w.heap.size ≤ w.heap.size + 1 := by omega
    go_enter Try.func4, Try.ntmps4
    go_wp2_with (first
      | (at_builtin; (have hn2 := owns_new O1.out); (refine wpList_append_row idE rfl (.tmp 17) (.tmp 19) 28 rfl (w.heap.size + 1) 23 (.agg #[.int .i64 0, .int .i64 0]) 16 Try.underlying28 info_id rfl rfl rfl (D := L) (L := [⟨77, 7⟩]) (O1.out.alloc _) (lit77 w1) (by unfold maxLen; simp; omega) (by simp; omega) (by have := Z1.out; simp; omega) ?_); (intro v2 w2 ho2 hk2; have K2 := Lib.hid ((K1.out.alloc _).over hk2 (fun b hb => by have := hn2 b hb; omega)); have B2 := Lib.hid (hk2.blk (fun hb => by have := hn2 _ hb; omega) (B1.out.alloc _)); obtain ⟨g, cap, rfl, hg, hO⟩ := own_snocE ho2; have hcap1 : L.length + 1 ≤ cap := (by have := hO.le.1; simpa using this); have hcap : L.length ≤ cap := (by omega); clear hk2 ho2 K1 O1 B1 hn2))
      | (at_builtin; (refine wpList_append_row idE rfl (.tmp 14) (.tmp 15) 28 rfl (w.heap.size + 1) 23 (.agg #[.int .i64 0, .int .i64 0]) 16 Try.underlying28 info_id rfl rfl rfl (D := []) (World.ownsRow_nil _ _ _ _) H0.out (by unfold maxLen; simp; omega) (by simp; omega) (by simp) ?_); intro v1 w1 ho1 hk1; rw [List.nil_append] at ho1; obtain ⟨ra, rc, rfl⟩ := owns_sl ho1; have K1 := Lib.hid (K0.out.over hk1 (fun b hb => by cases hb)); have B1 := Lib.hid (hk1.blk (fun hb => by cases hb) B0.out); have Z1 := Lib.hid (show w.heap.size + 1 ≤ w1.heap.size from B1.out.lt); have O1 := Lib.hid ho1; clear hk1 ho1 K0 H0 B0))
    have GL := Lib.hid hO.lt
    refine (pack_any (OwnAt.first hO) (by omega)).mono ?_
    rintro e w3 ⟨v3, S, rfl, hset, ho3, hk3⟩
    obtain ⟨b3, c3, rfl⟩ := owns_sl ho3
    have O3 := Lib.hid (hO.keep hk3 (fun h => h))
    have K3 := Lib.hid (K2.out.trans hk3 (fun _ _ h => h))
    have B3 := Lib.hid (hk3.blk (fun h => h) B2.out)
    have R3 := Lib.hid ho3
    have S3 := Lib.hid hset
    clear hO hk3 ho3 hset K2 B2
    go_wp2_with fail
    refine (rpack_any (HS.out.kept K3.out) (by omega)).mono ?_
    rintro e w4 ⟨v4, S', rfl, hset', hSl, ho4, hk4⟩
    obtain rfl := hset'.unique S3.out
    have hpl : (packL S').length ≤ 1000000000 := by have := packL_len S'; omega
    obtain ⟨b4, c4, rfl⟩ := owns_sl ho4
    have O4 := Lib.hid (O3.out.keep hk4 (fun h => h))
    have K4 := Lib.hid (K3.out.trans hk4 (fun _ _ h => h))
    have B4 := Lib.hid (hk4.blk (fun h => h) B3.out)
    have R4 := Lib.hid (owns_keep R3.out hk4 (fun _ _ h => h))
    have heq := runs_eq (owns_slAt (E := runE) R4.out) (owns_slAt (E := runE) ho4) hpl
    rw [decide_eq_true rfl] at heq
    clear O3 K3 B3 R3 hk4 ho4 hset'
    go_wp2_with fail
    refine heq.mono ?_
    rintro e w5 ⟨rfl, q5, rfl⟩
    clear heq
    have hk5 : Kept (fun _ => False) w4 (w4.drewN q5) := (Kept.refl _ _).drewN _
    generalize w4.drewN q5 = w5 at *
    have O5 := Lib.hid (O4.out.keep hk5 (fun h => h))
    have K5 := Lib.hid (K4.out.trans hk5 (fun _ _ h => h))
    have B5 := Lib.hid (hk5.blk (fun h => h) B4.out)
    have R5 := Lib.hid (owns_keep R4.out hk5 (fun _ _ h => h))
    have heq := ids_eq (OwnAt.first O5.out) (HS.out.kept K5.out) (by omega)
    rw [decide_eq_true rfl] at heq
    clear O4 K4 B4 R4 hk5
    go_wp2_with fail
    refine heq.mono ?_
    rintro e w6 ⟨rfl, q6, rfl⟩
    clear heq
    have hk6 : Kept (fun _ => False) w5 (w5.drewN q6) := (Kept.refl _ _).drewN _
    generalize w5.drewN q6 = w6 at *
    have hO6 := O5.out.keep hk6 (fun h => h)
    have K6 := Lib.hid (K5.out.trans hk6 (fun _ _ h => h))
    have B6 := Lib.hid (hk6.blk (fun h => h) B5.out)
    have R6 := Lib.hid (owns_keep R5.out hk6 (fun _ _ h => h))
    obtain ⟨t0, t1⟩ := OwnAt.id hO6 (i := L.length) (x := ⟨77, 7⟩) (by simp)
    have O6 := Lib.hid hO6
    have hn0 : (0 : Int) ≤ L.length := by omega
    clear O5 K5 B5 R5 hk6 hO6
    by_cases hL0 : L.length = 0
    · have hL0b : ((L.length : Int) == 0) = true := by simp [hL0]
      have t0' : w6.cell? ⟨g, 0, none⟩ = some (.int .i64 77) := by simpa [hL0] using t0
      have t1' : w6.cell? ⟨g, 1, none⟩ = some (.int .i64 7) := by simpa [hL0] using t1
      go_wp2_with fail
      refine (known_any _).mono ?_
      rintro e w7 ⟨rfl, hk7⟩
      go_wp2_with fail
      go_ret
      exact ⟨rfl, K6.out.trans hk7 (fun _ _ h => h)⟩
    · have hL0b : ((L.length : Int) == 0) = false := beq_eq_false_iff_ne.2 (by omega)
      have hLp : (0 : Int) < L.length := by omega
      have x0 : _ = some (Value.int .i64 xt) := B6.out.cell' (i := 0) rfl
      have x1 : _ = some (Value.int .i64 xs) := B6.out.cell' (i := 1) rfl
      have hlt := Int.tmod_lt_of_pos i hLp
      have hgt : -(L.length : Int) < i.tmod L.length := by
        have := Int.neg_tmod i L.length
        have := Int.tmod_lt_of_pos (-i) hLp
        omega
      have hcase : ∃ k : Nat, k < L.length ∧ ((i.tmod L.length < 0 ∧ i.tmod L.length + L.length = (k : Int)) ∨ (¬ i.tmod L.length < 0 ∧ i.tmod L.length = (k : Int))) := by
        by_cases hneg : i.tmod L.length < 0
        · exact ⟨(i.tmod L.length + L.length).toNat, by omega, .inl ⟨hneg, by omega⟩⟩
        · exact ⟨(i.tmod L.length).toNat, by omega, .inr ⟨hneg, by omega⟩⟩
      obtain ⟨k, hkL, hcase⟩ := hcase
      have hkl : (k : Int) < L.length + 1 := by omega
      have hk0 : (0 : Int) ≤ k := by omega
      have f0 := O6.out.frozen (k * 2)
      have f1 := O6.out.frozen (k * 2 + 1)
      obtain ⟨y, hy⟩ := get_of_lt hkL
      obtain ⟨y0, y1⟩ := OwnAt.id O6.out (i := k) (x := y) (by rw [List.getElem?_append_left hkL]; exact hy)
      clear hy hlt hgt
      have hO7 := OwnAt.set2 O6.out (i := k) (x := ⟨xt, xs⟩) (a := .int .i64 xt) (b := .int .i64 xs) (by simp; omega) rfl rfl
      rw [List.set_append_left _ _ hkL] at hO7
      have hk7 : Kept (· = g) w6 ((w6.setCell ⟨g, k * 2, none⟩ (.int .i64 xt)).setCell ⟨g, k * 2 + 1, none⟩ (.int .i64 xs)) := Kept.setCell (Kept.setCell (Kept.refl (· = g) w6) (p := ⟨g, k * 2, none⟩) (fun _ => rfl) _) (p := ⟨g, k * 2 + 1, none⟩) (fun _ => rfl) _
      have R7 := Lib.hid (owns_keep R6.out hk7 (fun b hb => by have := owns_new R6.out b hb; have := GL.out; omega))
      have K7 := Lib.hid (Kept.newer K6.out hk7 (by omega))
      have hs7 := OwnAt.first hO7
      rw [List.length_set] at hs7
      have S7 := Lib.hid hs7
      have LL := Lib.hid (show (L.set k (⟨xt, xs⟩ : ID)).length = L.length from List.length_set ..)
      generalize L.set k (⟨xt, xs⟩ : ID) = L2 at *
      clear hO7 hk7 hs7 R6 K6 B6
      rcases hcase with ⟨hneg, hk⟩ | ⟨hneg, hk⟩
      have hw : IntKind.i64.wrap (i.tmod L.length + L.length) = (k : Int) := by rw [hk]; exact IntWalk.i64_in _ (by omega)
      all_goals
        go_wp2_with fail
        clear y0 y1 f0 f1 x0 x1 t0 t1
        have hlen2 : L2.length ≤ 400 := by have := LL.out; omega
        generalize ((w6.setCell ⟨g, k * 2, none⟩ (.int .i64 xt)).setCell ⟨g, k * 2 + 1, none⟩ (.int .i64 xs)) = w7 at *
        refine (pack_any S7.out (by omega)).mono ?_
        rintro e w8 ⟨v8, T, rfl, hset, ho8, hk8⟩
        obtain ⟨b8, c8, rfl⟩ := owns_sl ho8
        have K8 := Lib.hid (K7.out.trans hk8 (fun _ _ h => h))
        have R8 := Lib.hid (owns_keep R7.out hk8 (fun _ _ h => h))
        have S8 := Lib.hid (S7.out.kept hk8)
        have Q8 := Lib.hid ho8
        have T8 := Lib.hid hset
        clear hk8 ho8 hset K7 R7 S7
        go_wp2_with fail
        refine (rpack_any S8.out (by omega)).mono ?_
        rintro e w9 ⟨v9, T', rfl, hset', hSl', ho9, hk9⟩
        obtain rfl := hset'.unique T8.out
        have hpl2 : (packL T').length ≤ 1000000000 := by have := packL_len T'; omega
        obtain ⟨b9, c9, rfl⟩ := owns_sl ho9
        have K9 := Lib.hid (K8.out.trans hk9 (fun _ _ h => h))
        have R9 := Lib.hid (owns_keep R8.out hk9 (fun _ _ h => h))
        have heq := runs_eq (owns_slAt (E := runE) (owns_keep Q8.out hk9 (fun _ _ h => h))) (owns_slAt (E := runE) ho9) hpl2
        rw [decide_eq_true rfl] at heq
        clear K8 R8 S8 Q8 hk9 ho9 hset'
        go_wp2_with fail
        refine heq.mono ?_
        rintro e w10 ⟨rfl, q10, rfl⟩
        clear heq
        have hk10 : Kept (fun _ => False) w9 (w9.drewN q10) := (Kept.refl _ _).drewN _
        generalize w9.drewN q10 = w10 at *
        have K10 := Lib.hid (K9.out.trans hk10 (fun _ _ h => h))
        have R10 := Lib.hid (owns_keep R9.out hk10 (fun _ _ h => h))
        clear K9 R9 hk10
        go_wp2_with fail
        refine (rpack_any (HS.out.kept K10.out) (by omega)).mono ?_
        rintro e w11 ⟨v11, S2, rfl, hset2, hSl2, ho11, hk11⟩
        obtain rfl := hset2.unique S3.out
        obtain ⟨b11, c11, rfl⟩ := owns_sl ho11
        have K11 := Lib.hid (K10.out.trans hk11 (fun _ _ h => h))
        have heq := runs_eq (owns_slAt (E := runE) (owns_keep R10.out hk11 (fun _ _ h => h))) (owns_slAt (E := runE) ho11) hpl
        rw [decide_eq_true rfl] at heq
        clear K10 R10 hk11 ho11 hset2
        go_wp2_with fail
        refine heq.mono ?_
        rintro e w12 ⟨rfl, q12, rfl⟩
        clear heq
        have K12 := Lib.hid (K11.out.drewN q12)
        generalize w11.drewN q12 = w12 at *
        go_wp2_with fail
        refine (known_any _).mono ?_
        rintro e w13 ⟨rfl, hk13⟩
        go_wp2_with fail
        go_ret
        exact ⟨rfl, K12.out.trans hk13 (fun _ _ h => h)⟩
theorem walk (v0 : Value) (z0 : List ID) (v1 : Value) (z1 : ID) (n : Int) {w0 w1 : World} (h0 : SlAt idE w0 v0 z0 ∧ ∀ x ∈ z0, x.In) (h1 : IdVal w1 v1 z1) (hn : (Lit.int .i64 n).wf = true) (w : World) (hw : w = w0) : Calls Try.prog 4 #[v0, v1, .int .i64 n] w fun e w' => e = .returned (.bool true) ∧ Below w.heap.size w w' := by
  subst hw
  obtain ⟨rfl, _⟩ := h1
  exact (walk_core h0.1 z1.t z1.s n (i64_of hn)).mono fun e w' ⟨he, hk⟩ => ⟨he, hk.below (Nat.le_refl _) (fun _ _ h => h)⟩
end stampPacks

namespace stampPacks
open Go.ChangeShapes Go.WideShapes Go.ChangeAt Go.RowKit
open Go.ChangeMaps (open_string shut_string)
theorem own : ownKnob Try.prog.godebug = none := by kernel_rfl
theorem laidOut : laidOutB Try.prog = true := by kernel_rfl
set_option maxRecDepth 100000 in
theorem lifted (os : Os) (started : os.Started) (H : Type) (enc : TypeId × Value → H) :
    ReturnsInHanded {} Try.checked os 4 .any (Rows.stampPacksSpec.pre6 enc Try.prog Try.f4 Rows.stampPacksRow.domain false) (Rows.stampPacksSpec.post enc Try.prog Try.f4 false true false false) := by
  refine returnsInHanded_of_change (C := Try.checked) own started (by kernel_rfl) Try.func4
    (ChangeSpec.witness6 (enc := enc) (C := Try.checked) false ⟨#[], #[.slice none 0 0, .agg #[.int .i64 0, .int .i64 0], .int .i64 0], []⟩ 8 (by kernel_rfl) (by kernel_rfl) (by kernel_rfl) (by kernel_rfl)) ?_
  intro W base args ds gs before hval0 hW hcnd _
  have hval : ∀ (j : Nat) t v, Try.f4.params[j]? = some t → args[j]? = some v → Value.okWide Try.prog W .any base t v := hval0
  have hW' := hW
  obtain ⟨p, q, hA0, hV, rfl, hfz, hnd⟩ := hW
  have hA : DataW.TrodAll enc Try.prog W 0 (fun _ => true) true Try.f4.params.toList args.toList ds p := hA0
  rw [Try.params4] at hA hval
  obtain ⟨v0, vs0, d0, ds0, p0, q0, hargs, rfl, rfl, h0, r0⟩ := trodAll_cons hA
  obtain ⟨v1, vs1, d1, ds1, p1, q1, rfl, rfl, rfl, h1, r1⟩ := trodAll_cons r0
  obtain ⟨v2, vs2, d2, ds2, p2, q2, rfl, rfl, rfl, h2, r2⟩ := trodAll_cons r1
  obtain ⟨rfl, rfl, rfl⟩ := trodAll_nil r2
  obtain rfl : args = #[v0, v1, v2] := by cases args; simp_all
  obtain ⟨rfl, rfl⟩ := trodVars_none hV
  have k0 := h0
  have lt0 : ∀ x ∈ p0, x.block < W.heap.size := by obtain ⟨m, hm⟩ := k0; exact DataW.trod_lt m _ _ _ hm
  obtain ⟨z0, w0⟩ := open_ids (hval 0 28 v0 rfl rfl) h0
  have k1 := h1
  have lt1 : ∀ x ∈ p1, x.block < W.heap.size := by obtain ⟨m, hm⟩ := k1; exact DataW.trod_lt m _ _ _ hm
  obtain ⟨z1, w1⟩ := open_id (hval 1 23 v1 rfl rfl) h1
  obtain ⟨a2, rfl, rfl, rfl, w2⟩ := open_int Try.underlying3 (hval 2 3 v2 rfl rfl) h2
  clear hA0 hval0
  refine (walk v0 z0 v1 z1 a2 w0 w1 w2 W rfl).mono fun e W' ⟨he, bel⟩ => ?_
  subst he
  exact ⟨_, rfl, _, _, _, [], _, [], hW', trodAll_mk1 (shut_bool Try.underlying4 _), (trodAll_cons_mk (Below.trod laidOut (by kernel_rfl) (of_decide_eq_true (by kernel_rfl)) k0 bel lt0) (trodAll_cons_mk (Below.trod laidOut (by kernel_rfl) (of_decide_eq_true (by kernel_rfl)) k1 bel lt1) (trodAll_cons_mk (shut_int Try.underlying3 w2) trodAll_mk0))), rfl, bel.frame _, fun h => by cases h⟩

theorem over : Rows.stampPacksRow.holds Try.pinned (OpenSpec.ofChange Rows.stampPacksSpec) :=
  OpenClaim.holds_of_wide 4 Try.f4 rfl rfl rfl rfl rfl rfl rfl ⟨rfl, rfl, rfl, rfl, rfl⟩ rfl rfl rfl rfl rfl (by kernel_rfl) Try.func4 (by kernel_rfl)
    (of_decide_eq_true (by kernel_rfl)) (by unfold Func.isWrapper; first | (rw [if_pos (by decide +kernel)]; kernel_rfl) | (rw [if_neg (by decide +kernel)]; exact ⟨rfl, rfl⟩))
    (fun os started H enc _ => lifted os started H enc)
theorem proved : Rows.StampPacksSaid := over
end stampPacks


end Go.Proofs.Ytdbnohlignpeaaa
