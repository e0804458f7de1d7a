/- Reset and Set of an Alarm. -/
import Derived.Test.YtmfjeeogeilgfaaAlWrite
import Derived.Deep.RegionHeld3
namespace Go.Proofs.Ytmfjeeogeilgfaa.Al
open Go.RowKit
section
variable {w : World} {A : Nat} {l m : Int} {mv : Value} {X : Row} {F : Nat → Prop}

def tickB (now : Int) : Bool := decide (0 ≤ now) && decide (now ≤ 2147483647)
theorem isTick_yes {n : Int} (h : tickB n = true) (w : World) : Calls Try.prog 30 #[.int .i64 n] w fun e w' => e = .returned (.bool true) ∧ w = w' :=
  (isTick_any n w).mono fun e w' ⟨he, hw⟩ => ⟨by rw [he]; exact congrArg (fun b => Ending.returned (.bool b)) h, hw⟩
theorem isTick_no {n : Int} (h : tickB n = false) (w : World) : Calls Try.prog 30 #[.int .i64 n] w fun e w' => e = .returned (.bool false) ∧ w = w' :=
  (isTick_any n w).mono fun e w' ⟨he, hw⟩ => ⟨by rw [he]; exact congrArg (fun b => Ending.returned (.bool b)) h, hw⟩

theorem reset_nil (k now : Int) (w : World) : Calls Try.prog 18 #[.pointer none, .int .i64 k, .int .i64 now] w fun e w' => e = .returned (.int .i64 1) ∧ w = w' := by
  go_enter Try.func18, Try.ntmps18
  go_wp2_with fail
  go_ret
  exact ⟨rfl, rfl⟩
theorem reset_bad (h : AlarmAt w A l m X F) (k now : Int) (hb : l = 0 ∨ tickB now = false) : Calls Try.prog 18 #[.pointer (some ⟨A, 0, none⟩), .int .i64 k, .int .i64 now] w fun e w' => e = .returned (.int .i64 1) ∧ w = w' := by
  obtain ⟨mv, F0, F1, h1, h2, h3⟩ := h.ex
  obtain ⟨v, hA⟩ := h1.blk
  have c0 : w.cell? ⟨A, 0, none⟩ = some (.int .i64 l) := hA.cell' rfl
  by_cases h0 : l = 0
  · subst h0
    go_enter Try.func18, Try.ntmps18
    go_wp2_with fail
    go_ret
    exact ⟨rfl, rfl⟩
  · have ht := hb.resolve_left h0
    have hl : (l == 0) = false := by simpa using h0
    have H := Lib.hid ht
    clear ht hb
    go_enter Try.func18, Try.ntmps18
    go_wp2_with (go_at_call 30; refine (isTick_no H.out _).mono ?_; rintro e w' ⟨rfl, rfl⟩)
    go_ret
    exact ⟨rfl, rfl⟩

theorem RowAt.blocks {F0 : Nat → Prop} (h : RowAt w A l m mv X F0) {x : Nat × T} (hx : x ∈ X) : F0 x.1 := by
  rcases h with ⟨rfl, _, _⟩ | ⟨sb, cap, hH, hok, f⟩
  · cases hx
  · rw [f]; exact .inr (.inr (List.mem_map.2 ⟨x, hx, rfl⟩))
theorem RowAt.hasA {F0 : Nat → Prop} (h : RowAt w A l m mv X F0) : F0 A := by
  rcases h with ⟨rfl, _, f⟩ | ⟨sb, cap, hH, hok, f⟩ <;> rw [f]
  exact .inl rfl

theorem getI_putI : ∀ (kvs : List (Int × Value)) (k : Int) (v : Value), getI (putI kvs k v) k = some v := by
  intro kvs k v
  induction kvs with
  | nil => simp [putI, getI]
  | cons x r ih =>
    by_cases h : x.1 = k
    · simp [putI, getI, h]
    · unfold getI at ih ⊢
      simp only [putI, if_neg h]
      rw [List.find?_cons_of_neg (by simpa using h)]
      exact ih

/-- what Reset comes to behind its last call -/
theorem reset_end {w w2 w4 w5 : World} {A mb : Nat} {l m k now : Int} {X Y Z : Row} {F G0 F'' : Nat → Prop} {kvs : List (Int × Value)}
    (hlm : LM l m) (hl : 1 ≤ l) (ht : 0 ≤ now ∧ now ≤ 2147483647) (hYk : (Y.map (·.2.key)).Nodup) (hYok : ∀ x ∈ Y, TOk l m x.2) (hpY : Y.Perm (X.filter fun x => x.2.key != k)) (hpk : kvs.Perm (Y.map kv))
    (hkF : Kept F w w2) (hmbF : mb < w.heap.size → F mb) (hmb2 : mb < w2.heap.size) (hG0 : ∀ b, G0 b → b < w.heap.size → F b) (hmbG : ¬ G0 mb)
    (hk24 : Kept (fun b => b = mb) w2 w4) (hM4 : MapI w4 mb (putI kvs k (.pointer (some ⟨w2.heap.size, 0, none⟩))))
    (hZ : RowAt w5 A l m (.map (some mb)) Z F'') (hpZ : Z.Perm ((w2.heap.size, ⟨k, l, now + l⟩) :: Y)) (hF'' : ∀ b, b < w4.heap.size → F'' b → G0 b ∨ b = w2.heap.size) (hk45 : Kept (fun b => G0 b ∨ b = w2.heap.size) w4 w5) :
    ∃ Y F', AlarmAt w5 A l m Y F' ∧ (Y.map (·.2)).Perm (⟨k, l, now + l⟩ :: (X.filter fun x => x.2.key != k).map (·.2)) ∧ (∀ b, b < w.heap.size → F' b → F b) ∧ Kept F w w5 := by
  have hkn : ∀ y ∈ Y, y.2.key ≠ k := fun y hy => by simpa using (List.mem_filter.1 (hpY.mem_iff.1 hy)).2
  have hput : putI kvs k (.pointer (some ⟨w2.heap.size, 0, none⟩)) = kvs ++ [(k, .pointer (some ⟨w2.heap.size, 0, none⟩))] := putI_none _ _ _ 0 ((findI_none_iff _ _ _).2 (get_kv_none hpk hkn))
  rw [hput] at hM4
  have hM5 := hM4.keep hk45 (by rintro (h | h); exact hmbG h; omega)
  have hs := hkF.size
  have hs4 := hk24.size
  refine ⟨Z, fun b => F'' b ∨ b = mb, ⟨⟨_, _, _, hZ, .inr ⟨mb, _, rfl, hM5, ?_, rfl⟩, rfl⟩, ?_, ?_, hlm, fun h0 => by omega⟩, ?_, ?_, ?_⟩
  · refine (List.perm_append_singleton _ _).trans (((hpk.cons _).trans ?_))
    exact (hpZ.map kv).symm
  · refine ((hpZ.map (·.2.key)).nodup_iff).2 ?_
    simp only [List.map_cons, List.nodup_cons]
    exact ⟨fun h => by obtain ⟨y, hy, e⟩ := List.mem_map.1 h; exact hkn y hy e, hYk⟩
  · intro x hx
    rcases List.mem_cons.1 (hpZ.mem_iff.1 hx) with h | h
    · subst h; unfold TOk; unfold LM at hlm; simp only; omega
    · exact hYok x h
  · refine (hpZ.map (·.2)).trans ?_
    simp only [List.map_cons]
    exact (hpY.map (·.2)).cons _
  · intro b hb h
    rcases h with h | h
    · rcases hF'' b (by omega) h with h | h
      · exact hG0 b h hb
      · omega
    · subst h; exact hmbF hb
  · have k1 : Kept (fun b => b = mb ∨ G0 b) w2 w5 := (hk24.mono fun b _ h => .inl h).trans hk45 fun b hb h => by
      rcases h with h | h
      · exact .inr h
      · omega
    refine hkF.trans k1 fun b hb h => ?_
    rcases h with h | h
    · subst h; exact hmbF hb
    · exact hG0 b h hb

set_option maxHeartbeats 1000000 in
theorem reset_ok (h : AlarmAt w A l m X F) (k now : Int) (hl : 1 ≤ l) (ht : tickB now = true) (hbig : X.length < 1000000) :
    Calls Try.prog 18 #[.pointer (some ⟨A, 0, none⟩), .int .i64 k, .int .i64 now] w fun e w' => e = .returned (.int .i64 0) ∧
      ∃ Y F', AlarmAt w' A l m Y F' ∧ (Y.map (·.2)).Perm (⟨k, l, now + l⟩ :: (X.filter fun x => x.2.key != k).map (·.2)) ∧ (∀ b, b < w.heap.size → F' b → F b) ∧ Kept F w w' := by
  obtain ⟨mv, F0, F1, h1, h2, h3⟩ := h.ex
  obtain ⟨v, hA⟩ := h1.blk
  have c0 : w.cell? ⟨A, 0, none⟩ = some (.int .i64 l) := hA.cell' rfl
  have hl0 : (l == 0) = false := by simp; omega
  have hlm := h.lm
  have htb : 0 ≤ now ∧ now ≤ 2147483647 := by simpa [tickB] using ht
  have H := Lib.hid ht
  clear ht
  have hXA := h1.hasA
  go_enter Try.func18, Try.ntmps18
  go_wp2_with (go_at_call 30; refine (isTick_yes H.out _).mono ?_; rintro e w' ⟨rfl, rfl⟩)
  refine (off_any h k (by omega)).mono ?_
  rintro e w1 ⟨rfl, Y, F', hY, hpY, hF', hk1⟩
  have hYbig : Y.length < 1000000 := by have h1 := hpY.length_eq; have h2 := List.length_filter_le (fun x : Nat × T => x.2.key != k) X; omega
  have hYk := hY.keys
  have hYok := hY.ok
  obtain ⟨mv1, G0, G1, g1, g2, g3⟩ := hY.ex
  obtain ⟨v1, hA1⟩ := g1.blk
  have heq := fun (w : World) (r : Option Nat) => run_eql_map_nil (P := Try.prog) w _ _ _ r under_map
  have hmm := @run_makeMap Try.prog
  have hG0 : ∀ b, G0 b → b < w.heap.size → F b := fun b hb _ => hF' b (by rw [g3]; exact .inl hb)
  have R1 := Lib.hid hpY
  have R2 := Lib.hid hYk
  have R3 := Lib.hid hYok
  have R4 := Lib.hid hG0
  clear hpY hYk hYok hG0
  rcases g2 with ⟨rfl, hY0, g2⟩ | ⟨mb, kvs, rfl, hm, hpk, g2⟩
  · have Y0 := Lib.hid hY0
    clear hY0
    have c2 : w1.cell? ⟨A, 2, none⟩ = some (.map none) := hA1.cell' rfl
    have f2 := hA1.frozen 2
    have hz := hA1.lt
    go_wp2_with fail
    have k1 : Kept (fun _ => False) (w1.setCell ⟨A, 2, none⟩ (.map (some w1.heap.size))) ((w1.setCell ⟨A, 2, none⟩ (.map (some w1.heap.size))).alloc (.map #[] 0)) := (Kept.refl _ _).alloc _
    have gR := (g1.setMap (.map (some w1.heap.size))).keep k1 (fun _ _ h => h)
    have hm : MapI ((w1.setCell ⟨A, 2, none⟩ (.map (some w1.heap.size))).alloc (.map #[] 0)) w1.heap.size [] := by
      refine ⟨#[], 0, ?_, rfl⟩
      have h := heap_alloc_new (w1.setCell ⟨A, 2, none⟩ (.map (some w1.heap.size))) (.map #[] 0)
      rwa [show (w1.setCell ⟨A, 2, none⟩ (.map (some w1.heap.size))).heap.size = w1.heap.size from by simp [World.setCell]] at h
    have hkF : Kept F w ((w1.setCell ⟨A, 2, none⟩ (.map (some w1.heap.size))).alloc (.map #[] 0)) := (hk1.setCell (fun _ => by rw [h3]; exact .inl hXA) _).alloc _
    have hmbF : w1.heap.size < w.heap.size → F w1.heap.size := fun h => by have := hk1.size; omega
    have hpk : ([] : List (Int × Value)).Perm (Y.map kv) := by rw [Y0.out]; exact List.Perm.refl _
    clear hmm heq g1 hY hk1 k1 hA1 c2 f2 hz g2 g3 hF' Y0
    generalize (w1.setCell ⟨A, 2, none⟩ (.map (some w1.heap.size))).alloc (.map #[] 0) = w2 at *
    generalize w1.heap.size = mb at *
    generalize ([] : List (Int × Value)) = kvs at *
    clear w1
    obtain ⟨v2, hA2⟩ := gR.blk
    have c2 : w2.cell? ⟨A, 2, none⟩ = some (.map (some mb)) := hA2.cell' rfl
    have c0' : w2.cell? ⟨A, 0, none⟩ = some (.int .i64 l) := hA2.cell' rfl
    have hAz := hA2.lt
    have hm3 : MapI (w2.alloc (.cells #[.int .i64 k, .int .i64 l, .int .i64 (now + l), .int .i64 0] 64)).drew mb kvs := (hm.keep ((Kept.refl (fun _ => False) _).alloc _) (fun h => h)).keep (Kept.refl (fun _ => False) _).drew (fun h => h)
    obtain ⟨w4, hup, hM4, hk4⟩ := run_updateI (P := Try.prog) (k := k) under_map under_int hm3 (.pointer (some ⟨w2.heap.size, 0, none⟩))
    have hwrap : 0 ≤ now + l ∧ now + l ≤ 9223372036854775807 := by unfold LM at hlm; omega
    go_region
    have hmz := hm.lt
    have hk24 : Kept (fun b => b = mb) w2 w4 := (((Kept.refl _ _).alloc _).drew).trans hk4 fun _ _ h => h
    have gR4 : RowAt w4.drew A l m (.map (some mb)) Y G0 := (gR.keep hk24 (fun b hb e => gR.not_map hm (e ▸ hb))).drewN 1
    have hT : Blk w4.drew w2.heap.size 64 (tcells ⟨k, l, now + l⟩ 0) := ((hk4.blk (fun e => by omega) ((Blk.new w2 64 (tcells ⟨k, l, now + l⟩ 0)).drewN 1))).drewN 1
    have hM4d : MapI w4.drew mb (putI kvs k (.pointer (some ⟨w2.heap.size, 0, none⟩))) := hM4.keep (Kept.refl (fun _ => False) _).drew (fun h => h)
    have hlk := run_lookupI (P := Try.prog) (k := k) under_map under_int hM4d (getI_putI _ _ _)
    obtain ⟨v4, hA4⟩ := gR4.blk
    have c24 : w4.cell? ⟨A, 2, none⟩ = some (.map (some mb)) := hA4.cell' rfl
    have hnew : ∀ x ∈ Y, x.1 ≠ w2.heap.size := fun x hx => Nat.ne_of_lt (gR.lt _ (gR.blocks hx))
    have R5 := Lib.hid hnew
    have R6 := Lib.hid hM4d
    clear hnew c2 c0' hup hm3 hM4d
    go_wp2_with fail
    go_still_tail 11, (by kernel_rfl)
    change wpList _ _ _ _ _ w4.drew
    go_wp2_with (go_at_call 31; refine (hpush gR4 w2.heap.size ⟨k, l, now + l⟩ 0 hT R5.out hYbig).mono ?_; rintro e w5 ⟨rfl, Z, F'', hZ, hpZ, hF'', hk5⟩)
    go_ret
    exact ⟨rfl, reset_end hlm hl htb R2.out R3.out R1.out hpk hkF hmbF hmz R4.out (gR.not_map hm) hk24.drew R6.out hZ hpZ hF'' hk5⟩
  · have c2 : w1.cell? ⟨A, 2, none⟩ = some (.map (some mb)) := hA1.cell' rfl
    go_wp2_with fail
    have hmbF : mb < w.heap.size → F mb := fun _ => hF' _ (by rw [g3, g2]; exact .inr rfl)
    have gR := g1
    have hkF := hk1
    clear hmm heq g1 hY hk1 hA1 c2 g2 g3 hF'
    generalize w1 = w2 at *
    obtain ⟨v2, hA2⟩ := gR.blk
    have c2 : w2.cell? ⟨A, 2, none⟩ = some (.map (some mb)) := hA2.cell' rfl
    have c0' : w2.cell? ⟨A, 0, none⟩ = some (.int .i64 l) := hA2.cell' rfl
    have hAz := hA2.lt
    have hm3 : MapI (w2.alloc (.cells #[.int .i64 k, .int .i64 l, .int .i64 (now + l), .int .i64 0] 64)).drew mb kvs := (hm.keep ((Kept.refl (fun _ => False) _).alloc _) (fun h => h)).keep (Kept.refl (fun _ => False) _).drew (fun h => h)
    obtain ⟨w4, hup, hM4, hk4⟩ := run_updateI (P := Try.prog) (k := k) under_map under_int hm3 (.pointer (some ⟨w2.heap.size, 0, none⟩))
    have hwrap : 0 ≤ now + l ∧ now + l ≤ 9223372036854775807 := by unfold LM at hlm; omega
    go_region
    have hmz := hm.lt
    have hk24 : Kept (fun b => b = mb) w2 w4 := (((Kept.refl _ _).alloc _).drew).trans hk4 fun _ _ h => h
    have gR4 : RowAt w4.drew A l m (.map (some mb)) Y G0 := (gR.keep hk24 (fun b hb e => gR.not_map hm (e ▸ hb))).drewN 1
    have hT : Blk w4.drew w2.heap.size 64 (tcells ⟨k, l, now + l⟩ 0) := ((hk4.blk (fun e => by omega) ((Blk.new w2 64 (tcells ⟨k, l, now + l⟩ 0)).drewN 1))).drewN 1
    have hM4d : MapI w4.drew mb (putI kvs k (.pointer (some ⟨w2.heap.size, 0, none⟩))) := hM4.keep (Kept.refl (fun _ => False) _).drew (fun h => h)
    have hlk := run_lookupI (P := Try.prog) (k := k) under_map under_int hM4d (getI_putI _ _ _)
    obtain ⟨v4, hA4⟩ := gR4.blk
    have c24 : w4.cell? ⟨A, 2, none⟩ = some (.map (some mb)) := hA4.cell' rfl
    have hnew : ∀ x ∈ Y, x.1 ≠ w2.heap.size := fun x hx => Nat.ne_of_lt (gR.lt _ (gR.blocks hx))
    have R5 := Lib.hid hnew
    have R6 := Lib.hid hM4d
    clear hnew c2 c0' hup hm3 hM4d
    go_wp2_with fail
    go_still_tail 11, (by kernel_rfl)
    change wpList _ _ _ _ _ w4.drew
    go_wp2_with (go_at_call 31; refine (hpush gR4 w2.heap.size ⟨k, l, now + l⟩ 0 hT R5.out hYbig).mono ?_; rintro e w5 ⟨rfl, Z, F'', hZ, hpZ, hF'', hk5⟩)
    go_ret
    exact ⟨rfl, reset_end hlm hl htb R2.out R3.out R1.out hpk hkF hmbF hmz R4.out (gR.not_map hm) hk24.drew R6.out hZ hpZ hF'' hk5⟩

theorem set_nil (k now : Int) (w : World) : Calls Try.prog 17 #[.pointer none, .int .i64 k, .int .i64 now] w fun e w' => e = .returned (.int .i64 1) ∧ w = w' := by
  go_enter Try.func17, Try.ntmps17
  go_wp2_with (go_at_call 18; refine (reset_nil k now _).mono ?_; rintro e w' ⟨rfl, rfl⟩)
  go_ret
  exact ⟨rfl, rfl⟩
theorem set_bad (h : AlarmAt w A l m X F) (k now : Int) (hb : l = 0 ∨ tickB now = false) : Calls Try.prog 17 #[.pointer (some ⟨A, 0, none⟩), .int .i64 k, .int .i64 now] w fun e w' => e = .returned (.int .i64 1) ∧ w = w' := by
  obtain ⟨mv, F0, F1, h1, h2, h3⟩ := h.ex
  obtain ⟨v, hA⟩ := h1.blk
  have c0 : w.cell? ⟨A, 0, none⟩ = some (.int .i64 l) := hA.cell' rfl
  have hr := reset_bad h k now hb
  by_cases h0 : l = 0
  · subst h0
    have HR := Lib.hid hr
    clear hr
    go_enter Try.func17, Try.ntmps17
    go_wp2_with (go_at_call 18; refine HR.out.mono ?_; rintro e w' ⟨rfl, rfl⟩)
    go_ret
    exact ⟨rfl, rfl⟩
  · have ht := hb.resolve_left h0
    have hl : 0 < l := by have := h.lm; unfold LM at this; omega
    have H := Lib.hid ht
    have HR := Lib.hid hr
    clear ht hb hr
    go_enter Try.func17, Try.ntmps17
    go_wp2_with (first
      | (go_at_call 30; refine (isTick_no H.out _).mono ?_; rintro e w' ⟨rfl, rfl⟩)
      | (go_at_call 18; refine HR.out.mono ?_; rintro e w' ⟨rfl, rfl⟩))
    go_ret
    exact ⟨rfl, rfl⟩
theorem set_exists (h : AlarmAt w A l m X F) (now : Int) (hl : 1 ≤ l) (ht : tickB now = true) {x : Nat × T} (hx : x ∈ X) :
    Calls Try.prog 17 #[.pointer (some ⟨A, 0, none⟩), .int .i64 x.2.key, .int .i64 now] w fun e w' => e = .returned (.int .i64 12) ∧ w = w' := by
  obtain ⟨mv, F0, F1, h1, h2, h3⟩ := h.ex
  obtain ⟨mb, rfl, hlk⟩ := look_found h2 h.keys hx
  obtain ⟨v, hA⟩ := h1.blk
  have c0 : w.cell? ⟨A, 0, none⟩ = some (.int .i64 l) := hA.cell' rfl
  have c2 : w.cell? ⟨A, 2, none⟩ = some (.map (some mb)) := hA.cell' rfl
  have hl1 : 0 < l := by omega
  have H := Lib.hid ht
  clear ht h1 h2 h3
  go_enter Try.func17, Try.ntmps17
  go_wp2_with (go_at_call 30; refine (isTick_yes H.out _).mono ?_; rintro e w' ⟨rfl, rfl⟩)
  go_ret
  exact ⟨rfl, rfl⟩
theorem set_ok (h : AlarmAt w A l m X F) (k now : Int) (hl : 1 ≤ l) (ht : tickB now = true) (hx : ∀ x ∈ X, x.2.key ≠ k) (hbig : X.length < 1000000) :
    Calls Try.prog 17 #[.pointer (some ⟨A, 0, none⟩), .int .i64 k, .int .i64 now] w fun e w' => e = .returned (.int .i64 0) ∧
      ∃ Y F', AlarmAt w' A l m Y F' ∧ (Y.map (·.2)).Perm (⟨k, l, now + l⟩ :: X.map (·.2)) ∧ (∀ b, b < w.heap.size → F' b → F b) ∧ Kept F w w' := by
  have hr := reset_ok h k now hl ht hbig
  rw [List.filter_eq_self.2 fun y hy => by simpa using hx y hy] at hr
  obtain ⟨mv, F0, F1, h1, h2, h3⟩ := h.ex
  obtain ⟨r, rfl, hlk⟩ := look_none h2 hx
  obtain ⟨v, hA⟩ := h1.blk
  have c0 : w.cell? ⟨A, 0, none⟩ = some (.int .i64 l) := hA.cell' rfl
  have c2 : w.cell? ⟨A, 2, none⟩ = some (.map r) := hA.cell' rfl
  have hl1 : 0 < l := by omega
  have H := Lib.hid ht
  have HR := Lib.hid hr
  clear ht h1 h2 h3 hr hx
  go_enter Try.func17, Try.ntmps17
  go_wp2_with (go_at_call 30; refine (isTick_yes H.out _).mono ?_; rintro e w' ⟨rfl, rfl⟩)
  refine HR.out.mono ?_
  rintro e w' ⟨rfl, hq⟩
  have HQ := Lib.hid hq
  clear hq
  go_wp2_with fail
  go_ret
  exact ⟨rfl, HQ.out⟩
end
end Go.Proofs.Ytmfjeeogeilgfaa.Al
