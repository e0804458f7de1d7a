/- stamp.Check, walked. hearsayref6.Check. -/
import Derived.Test.YtaaeomapbigfgaaGreatU24
import Derived.Test.YtaaeomapbigfgaaGreatU25
import Derived.IntWalk
namespace Go.Proofs.YtaaeomapbigfgaaGreat.St
open Go.RowKit

/-- the map of each site's last time -/
def EndsOk (kvs : List (Int × Value)) (pre : List Run) : Prop := ∀ s, getK kvs s = (lastOf pre s).map fun r : Run => Value.int .i64 (r.id.t + r.c - 1)
theorem EndsOk.snoc {kvs : List (Int × Value)} {pre : List Run} (h : EndsOk kvs pre) (x : Run) : EndsOk (putK kvs x.id.s (.int .i64 (x.id.t + x.c - 1))) (pre ++ [x]) := by
  intro s
  rw [getK_put, lastOf_snoc, h]
  by_cases hs : x.id.s = s
  · rw [if_pos hs, if_pos hs]; rfl
  · rw [if_neg hs, if_neg hs]
theorem why_cases (pre : List Run) (x : Run) : (¬ x.Ok ∧ why pre x = 1) ∨ (x.Ok ∧ (∃ p, pre.getLast? = some p ∧ ¬ p.id.lt x.id) ∧ why pre x = 9) ∨
    (x.Ok ∧ (∀ p, pre.getLast? = some p → p.id.lt x.id) ∧ (∃ p ∈ pre, p.id.s = x.id.s ∧ x.id.t ≤ p.id.t + p.c) ∧ why pre x = 6) ∨ (x.Ok ∧ (∀ p, pre.getLast? = some p → p.id.lt x.id) ∧ (¬ ∃ p ∈ pre, p.id.s = x.id.s ∧ x.id.t ≤ p.id.t + p.c) ∧ why pre x = 0) := by
  unfold why
  by_cases h1 : x.Ok
  · rw [if_neg (by simpa using h1)]
    by_cases h2 : ∃ p, pre.getLast? = some p ∧ ¬ p.id.lt x.id
    · rw [if_pos h2]; exact .inr (.inl ⟨h1, h2, rfl⟩)
    · have h2' : ∀ p, pre.getLast? = some p → p.id.lt x.id := fun p hp => by
        by_cases hl : p.id.lt x.id
        · exact hl
        · exact absurd ⟨p, hp, hl⟩ h2
      rw [if_neg h2]
      by_cases h3 : ∃ p ∈ pre, p.id.s = x.id.s ∧ x.id.t ≤ p.id.t + p.c
      · rw [if_pos h3]; exact .inr (.inr (.inl ⟨h1, h2', h3, rfl⟩))
      · rw [if_neg h3]; exact .inr (.inr (.inr ⟨h1, h2', h3, rfl⟩))
  · rw [if_pos h1]; exact .inl ⟨h1, rfl⟩
theorem take_last {α : Type} {l : List α} {n : Nat} {p : α} (h : l[n]? = some p) : (l.take (n + 1)).getLast? = some p := by rw [List.take_add_one, h]; simp
theorem good_next {l : List Run} {n : Nat} {x : Run} (hx : l[n]? = some x) (hg : Good (l.take n)) (hw : why (l.take n) x = 0) : Good (l.take (n + 1)) := by
  rw [List.take_add_one, hx]; exact good_snoc.2 ⟨hg, hw⟩

theorem old_cell {w w' : World} (hk : Kept (fun _ => False) w w') {a : Addr} {v : Value} (h : w.cell? a = some v) : w'.cell? a = some v :=
  (World.cell?_of_block (a := a) (hk.block a.block (World.block_lt_of_cell? w a h) (fun h => h))).trans h
/-- where Check's loop stands -/
def ChRel (w : World) (mb : Nat) (L : List Run) (iv : Value) (wr : World) : Prop :=
  ∃ (n : Nat) (kvs : List (Int × Value)), iv = .int .i64 n ∧ n ≤ L.length ∧ Good (L.take n) ∧ MapK intK wr mb kvs ∧ EndsOk kvs (L.take n) ∧ Kept (fun _ => False) w wr
set_option maxRecDepth 100000 in
set_option maxHeartbeats 4000000 in
theorem check_any {w : World} {v : Value} {L : List Run} (h : SlAt runE w v L) (hin : ∀ r ∈ L, r.In) (hb : L.length ≤ 1000000000) : Calls Tryz.prog 138 #[v] w fun e w' => ∃ c, e = .returned (.int .i64 c) ∧ CheckIs L c ∧ Kept (fun _ => False) w w' := by
  have hmm := @run_makeMap Tryz.prog
  obtain ⟨a, c, rfl, _, _⟩ := h.sl
  have HI := Lib.hid hin
  have HS := Lib.hid h
  clear hin h
  go_enter Tryz.func138, Tryz.ntmps138
  go_wp2_with fail
  go_loopw [12] (fun iv wr => ChRel w w.heap.size L iv wr) (fun iv _ => L.length - (intOf iv).toNat)
  case atStart => exact ⟨0, [], rfl, Nat.zero_le _, fun n x hx => by simp at hx, MapK.made w, fun s => rfl, (Kept.refl _ _).alloc _⟩
  case round =>
    obtain ⟨n, kvs, rfl, hn, hgood, hM, hE, hkw⟩ := hrel
    have GD := Lib.hid hgood
    have EN := Lib.hid hE
    clear hgood hE
    by_cases hlt : n < L.length
    case neg =>
      have hge : L.length ≤ n := by omega
      go_wp2_with fail
      go_ret
      exact ⟨0, rfl, .inl ⟨rfl, by have := GD.out; rwa [List.take_of_length_le hge] at this⟩, hkw⟩
    case pos =>
      obtain ⟨x, hx⟩ := get_of_lt hlt
      obtain ⟨g, o, c', hv, hglt, hc⟩ := SlAt.run (HS.out.kept hkw) (by omega)
      cases hv
      obtain ⟨c0, c1, c2⟩ := hc n x hx
      obtain ⟨i1, i2, i3⟩ := HI.out x (List.mem_of_getElem? hx)
      unfold I64 at i1 i2 i3
      have HC := Lib.hid hc
      have X0 := Lib.hid hx
      clear hc hx
      have hn0 : (0 : Int) ≤ n := by omega
      have hnl : (n : Int) < L.length := by omega
      have hla := last_core x.id.t x.id.s x.c i3.1 i3.2 (wr.alloc (.cells #[.int .i64 x.id.t, .int .i64 x.id.s, .int .i64 x.c] 77))
      have hlast : (if x.c < 1 then ID.zero else ID.after ⟨x.id.t, x.id.s⟩ (x.c - 1)) = x.last := rfl
      rw [hlast] at hla
      clear hlast
      have hk1 : Kept (fun _ => False) wr (wr.alloc (.cells #[.int .i64 x.id.t, .int .i64 x.id.s, .int .i64 x.c] 77)) := (Kept.refl _ _).alloc _
      have hB1 := Blk.new wr 77 #[.int .i64 x.id.t, .int .i64 x.id.s, .int .i64 x.c]
      have HB1 := Lib.hid hB1
      have HK1 := Lib.hid hk1
      clear hB1 hk1
      rcases why_cases (L.take n) x with ⟨hok, hw⟩ | ⟨hok, hlast, hw⟩ | ⟨hok, hord, hform, hw⟩ | ⟨hok, hord, hform, hw⟩
      · have HW := Lib.hid hw
        rw [last_zero.2 hok] at hla
        clear hok hw
        go_wp2_with fail
        refine hla.mono ?_
        rintro e w1 ⟨rfl, hg1⟩
        unfold idV ID.zero
        go_wp2_with fail
        go_ret
        exact ⟨1, rfl, .inr ⟨n, x, X0.out, GD.out, HW.out, by decide⟩, ((hkw.trans HK1.out (fun _ _ h => h)).trans hg1.kept (fun _ _ h => h)).alloc _⟩
      · obtain ⟨p, hp, hpl⟩ := hlast
        obtain ⟨m, rfl⟩ : ∃ m, n = m + 1 := ⟨n - 1, by
          have : n ≠ 0 := by rintro rfl; simp at hp
          omega⟩
        obtain ⟨p', hp'⟩ := get_of_lt (show m < L.length by omega)
        have epp : p = p' := Option.some.inj (hp.symm.trans (take_last hp'))
        subst epp
        clear hp
        obtain ⟨e0, e1, _⟩ := HC.out m p hp'
        have HW := Lib.hid hw
        have hIs := hok.2.1
        unfold ID.Is at hIs
        obtain ⟨j1, j2, j3, j4⟩ := hIs
        have j5 := hok.1
        have j6 := hok.2.2
        rw [last_ok hok] at hla
        have z1 : (x.id.t + x.c - 1 == 0) = false := beq_eq_false_iff_ne.2 (by omega)
        have z2 : (x.id.s == 0) = false := beq_eq_false_iff_ne.2 (by omega)
        have hcmp : x.id.cmp p.id ≤ 0 := Int.not_lt.1 fun e => hpl (cmp_gt.1 e)
        have hd : decide ((0 : Int) < (m : Int) + 1) = true := decide_eq_true (by omega)
        have hm0 : (0 : Int) ≤ m := by omega
        have hml : (m : Int) < L.length := by omega
        have hd2 : decide (x.id.cmp p.id ≤ 0) = true := by simpa using hcmp
        have P0 := Lib.hid hp'
        clear hok hw hpl hp' hcmp
        go_wp2_with fail
        refine hla.mono ?_
        rintro e w1 ⟨rfl, hg1⟩
        unfold idV
        have HG1 := Lib.hid hg1
        clear hg1 hla
        go_wp2_with fail
        have hW5 := HG1.out.box HB1.out
        have hW6 := hW5.alloc (.cells #[.int .i64 (x.id.t + x.c - 1), .int .i64 x.id.s] 39)
        have hk6 : Kept (fun _ => False) wr (w1.alloc (.cells #[.int .i64 (x.id.t + x.c - 1), .int .i64 x.id.s] 39)) := (HK1.out.trans HG1.out.kept (fun _ _ h => h)).alloc _
        have q0 : _ = some (Value.int .i64 x.id.t) := hW6.cell' (i := 0) rfl
        have q1 : _ = some (Value.int .i64 x.id.s) := hW6.cell' (i := 1) rfl
        have q2 := old_cell hk6 e0
        have q3 := old_cell hk6 e1
        have HW6 := Lib.hid hW6
        have HK6 := Lib.hid hk6
        clear hW5 hW6 hk6
        generalize w1.alloc (.cells #[.int .i64 (x.id.t + x.c - 1), .int .i64 x.id.s] 39) = W at *
        have hw1 : IntKind.i64.wrap (m : Int) = (m : Int) := IntWalk.i64_in _ (by omega)
        go_region_held3 (fun w' => w'.cell? ⟨wr.heap.size, 0, none⟩ = some (.int .i64 x.id.t) ∧ w'.cell? ⟨wr.heap.size, 1, none⟩ = some (.int .i64 x.id.s) ∧ w'.cell? ⟨g, o + m * 3, none⟩ = some (.int .i64 p.id.t) ∧ w'.cell? ⟨g, o + m * 3 + 1, none⟩ = some (.int .i64 p.id.s)) (first | exact ⟨q0, q1, q2, q3⟩ | exact ⟨s0, s1, s2, s3⟩)
          (first
            | (go_simp; go_at_call 140; refine (compare_any x.id p.id _).mono ?_; rintro e w2 ⟨rfl, hg2⟩; have s0 : w2.cell? ⟨wr.heap.size, 0, none⟩ = some (.int .i64 x.id.t) := (hg2.box HW6.out).cell' rfl; have s1 : w2.cell? ⟨wr.heap.size, 1, none⟩ = some (.int .i64 x.id.s) := (hg2.box HW6.out).cell' rfl; have s2 := old_cell hg2.kept q2; have s3 := old_cell hg2.kept q3))
        go_wp2_with fail
        go_ret
        exact ⟨9, rfl, .inr ⟨m + 1, x, X0.out, GD.out, HW.out, by decide⟩, ((hkw.trans HK6.out (fun _ _ h => h)).drew).trans hg2.kept (fun _ _ h => h)⟩
      · rcases Nat.eq_zero_or_pos n with rfl | hnp
        · have hd : decide ((0 : Int) < 0) = false := by decide
          simp only [Nat.zero_mul, Nat.add_zero] at c0 c1 c2
          rw [show ((0 : Nat) : Int) = 0 from rfl]
          have HW := Lib.hid hw
          have hIs := hok.2.1
          unfold ID.Is at hIs
          obtain ⟨j1, j2, j3, j4⟩ := hIs
          have j5 := hok.1
          have j6 := hok.2.2
          rw [last_ok hok] at hla
          have z1 : (x.id.t + x.c - 1 == 0) = false := beq_eq_false_iff_ne.2 (by omega)
          have z2 : (x.id.s == 0) = false := beq_eq_false_iff_ne.2 (by omega)
          clear hok hw hord
          go_wp2_with fail
          refine hla.mono ?_
          rintro e w1 ⟨rfl, hg1⟩
          unfold idV
          have HG1 := Lib.hid hg1
          clear hg1 hla
          go_wp2_with fail
          have hW5 := HG1.out.box HB1.out
          have hW6 := hW5.alloc (.cells #[.int .i64 (x.id.t + x.c - 1), .int .i64 x.id.s] 39)
          have hk6 : Kept (fun _ => False) wr (w1.alloc (.cells #[.int .i64 (x.id.t + x.c - 1), .int .i64 x.id.s] 39)) := (HK1.out.trans HG1.out.kept (fun _ _ h => h)).alloc _
          have q0 : _ = some (Value.int .i64 x.id.t) := hW6.cell' (i := 0) rfl
          have q1 : _ = some (Value.int .i64 x.id.s) := hW6.cell' (i := 1) rfl
          have HW6 := Lib.hid hW6
          have HK6 := Lib.hid hk6
          have hv6 := Blk.new w1 39 #[.int .i64 (x.id.t + x.c - 1), .int .i64 x.id.s]
          have HV6 := Lib.hid hv6
          clear hW5 hW6 hk6 hv6
          generalize w1.alloc (.cells #[.int .i64 (x.id.t + x.c - 1), .int .i64 x.id.s] 39) = W at *
          go_quiet (fail)
          have hkX : Kept (fun _ => False) wr (W.drewN nq) := HK6.out.drewN _
          have u0 : _ = some (Value.int .i64 x.id.t) := (HW6.out.drewN nq).cell' (i := 0) rfl
          have u1 : _ = some (Value.int .i64 x.id.s) := (HW6.out.drewN nq).cell' (i := 1) rfl
          have u2 : _ = some (Value.int .i64 (x.id.t + x.c - 1)) := (HV6.out.drewN nq).cell' (i := 0) rfl
          have hM2 := hM.keep hkX (fun h => h)
          obtain ⟨r, hr, hrt⟩ := (form_iff GD.out x).1 hform
          have rok := GD.out.ok r (lastOf_mem hr).1
          have r1 := rok.2.2
          have r2 := rok.2.1
          have r3 := rok.1
          unfold ID.Is at r2
          have hget := EN.out x.id.s
          rw [hr] at hget
          have hlk : (Instr.lookup 174 (.map (some w.heap.size)) (.int .i64 x.id.s) true).run Tryz.prog (W.drewN nq) = .ok (.tuple #[.int .i64 (r.id.t + r.c - 1), .bool true]) (W.drewN nq) := run_lookupK_ok (K := intK) (k := x.id.s) Tryz.underlying174 hM2 hget
          obtain ⟨r4, r5, r6, r7⟩ := r2
          clear hget hr rok hform hM2
          go_wp2_with fail
          go_ret
          exact ⟨6, rfl, .inr ⟨0, x, X0.out, GD.out, HW.out, by decide⟩, hkw.trans hkX (fun _ _ h => h)⟩
        · obtain ⟨m, rfl⟩ : ∃ m, n = m + 1 := ⟨n - 1, by omega⟩
          obtain ⟨p, hp'⟩ := get_of_lt (show m < L.length by omega)
          have hpl := hord p (take_last hp')
          obtain ⟨e0, e1, _⟩ := HC.out m p hp'
          have HW := Lib.hid hw
          have hIs := hok.2.1
          unfold ID.Is at hIs
          obtain ⟨j1, j2, j3, j4⟩ := hIs
          have j5 := hok.1
          have j6 := hok.2.2
          rw [last_ok hok] at hla
          have z1 : (x.id.t + x.c - 1 == 0) = false := beq_eq_false_iff_ne.2 (by omega)
          have z2 : (x.id.s == 0) = false := beq_eq_false_iff_ne.2 (by omega)
          have hcmp : ¬ x.id.cmp p.id ≤ 0 := Int.not_le.2 (cmp_gt.2 hpl)
          have hd : decide ((0 : Int) < (m : Int) + 1) = true := decide_eq_true (by omega)
          have hm0 : (0 : Int) ≤ m := by omega
          have hml : (m : Int) < L.length := by omega
          have hd2 : decide (x.id.cmp p.id ≤ 0) = false := by simpa using hcmp
          clear hok hw hpl hp' hcmp hord
          go_wp2_with fail
          refine hla.mono ?_
          rintro e w1 ⟨rfl, hg1⟩
          unfold idV
          have HG1 := Lib.hid hg1
          clear hg1 hla
          go_wp2_with fail
          have hW5 := HG1.out.box HB1.out
          have hW6 := hW5.alloc (.cells #[.int .i64 (x.id.t + x.c - 1), .int .i64 x.id.s] 39)
          have hk6 : Kept (fun _ => False) wr (w1.alloc (.cells #[.int .i64 (x.id.t + x.c - 1), .int .i64 x.id.s] 39)) := (HK1.out.trans HG1.out.kept (fun _ _ h => h)).alloc _
          have q0 : _ = some (Value.int .i64 x.id.t) := hW6.cell' (i := 0) rfl
          have q1 : _ = some (Value.int .i64 x.id.s) := hW6.cell' (i := 1) rfl
          have q2 := old_cell hk6 e0
          have q3 := old_cell hk6 e1
          have HW6 := Lib.hid hW6
          have HK6 := Lib.hid hk6
          have hv6 := Blk.new w1 39 #[.int .i64 (x.id.t + x.c - 1), .int .i64 x.id.s]
          have HV6 := Lib.hid hv6
          clear hW5 hW6 hk6 hv6
          generalize w1.alloc (.cells #[.int .i64 (x.id.t + x.c - 1), .int .i64 x.id.s] 39) = W at *
          have hw1 : IntKind.i64.wrap (m : Int) = (m : Int) := IntWalk.i64_in _ (by omega)
          go_region_held3 (fun w' => w'.cell? ⟨wr.heap.size, 0, none⟩ = some (.int .i64 x.id.t) ∧ w'.cell? ⟨wr.heap.size, 1, none⟩ = some (.int .i64 x.id.s) ∧ w'.cell? ⟨g, o + m * 3, none⟩ = some (.int .i64 p.id.t) ∧ w'.cell? ⟨g, o + m * 3 + 1, none⟩ = some (.int .i64 p.id.s)) (first | exact ⟨q0, q1, q2, q3⟩ | exact ⟨s0, s1, s2, s3⟩)
            (first
              | (go_simp; go_at_call 140; refine (compare_any x.id p.id _).mono ?_; rintro e w2 ⟨rfl, hg2⟩; have s0 : w2.cell? ⟨wr.heap.size, 0, none⟩ = some (.int .i64 x.id.t) := (hg2.box HW6.out).cell' rfl; have s1 : w2.cell? ⟨wr.heap.size, 1, none⟩ = some (.int .i64 x.id.s) := (hg2.box HW6.out).cell' rfl; have s2 := old_cell hg2.kept q2; have s3 := old_cell hg2.kept q3))
          clear hw1
          have hkX : Kept (fun _ => False) wr w2 := (HK6.out.drew).trans hg2.kept (fun _ _ h => h)
          have u0 : _ = some (Value.int .i64 x.id.t) := (hg2.box HW6.out).cell' (i := 0) rfl
          have u1 : _ = some (Value.int .i64 x.id.s) := (hg2.box HW6.out).cell' (i := 1) rfl
          have u2 : _ = some (Value.int .i64 (x.id.t + x.c - 1)) := (hg2.box HV6.out).cell' (i := 0) rfl
          have hM2 := hM.keep hkX (fun h => h)
          obtain ⟨r, hr, hrt⟩ := (form_iff GD.out x).1 hform
          have rok := GD.out.ok r (lastOf_mem hr).1
          have r1 := rok.2.2
          have r2 := rok.2.1
          have r3 := rok.1
          unfold ID.Is at r2
          have hget := EN.out x.id.s
          rw [hr] at hget
          have hlk : (Instr.lookup 174 (.map (some w.heap.size)) (.int .i64 x.id.s) true).run Tryz.prog w2 = .ok (.tuple #[.int .i64 (r.id.t + r.c - 1), .bool true]) w2 := run_lookupK_ok (K := intK) (k := x.id.s) Tryz.underlying174 hM2 hget
          obtain ⟨r4, r5, r6, r7⟩ := r2
          clear hget hr rok hform hM2
          go_wp2_with fail
          go_ret
          exact ⟨6, rfl, .inr ⟨m + 1, x, X0.out, GD.out, HW.out, by decide⟩, hkw.trans hkX (fun _ _ h => h)⟩
      · rcases Nat.eq_zero_or_pos n with rfl | hnp
        · have hd : decide ((0 : Int) < 0) = false := by decide
          simp only [Nat.zero_mul, Nat.add_zero] at c0 c1 c2
          rw [show ((0 : Nat) : Int) = 0 from rfl]
          have HW := Lib.hid hw
          have hIs := hok.2.1
          unfold ID.Is at hIs
          obtain ⟨j1, j2, j3, j4⟩ := hIs
          have j5 := hok.1
          have j6 := hok.2.2
          rw [last_ok hok] at hla
          have z1 : (x.id.t + x.c - 1 == 0) = false := beq_eq_false_iff_ne.2 (by omega)
          have z2 : (x.id.s == 0) = false := beq_eq_false_iff_ne.2 (by omega)
          clear hok hw hord
          go_wp2_with fail
          refine hla.mono ?_
          rintro e w1 ⟨rfl, hg1⟩
          unfold idV
          have HG1 := Lib.hid hg1
          clear hg1 hla
          go_wp2_with fail
          have hW5 := HG1.out.box HB1.out
          have hW6 := hW5.alloc (.cells #[.int .i64 (x.id.t + x.c - 1), .int .i64 x.id.s] 39)
          have hk6 : Kept (fun _ => False) wr (w1.alloc (.cells #[.int .i64 (x.id.t + x.c - 1), .int .i64 x.id.s] 39)) := (HK1.out.trans HG1.out.kept (fun _ _ h => h)).alloc _
          have q0 : _ = some (Value.int .i64 x.id.t) := hW6.cell' (i := 0) rfl
          have q1 : _ = some (Value.int .i64 x.id.s) := hW6.cell' (i := 1) rfl
          have HW6 := Lib.hid hW6
          have HK6 := Lib.hid hk6
          have hv6 := Blk.new w1 39 #[.int .i64 (x.id.t + x.c - 1), .int .i64 x.id.s]
          have HV6 := Lib.hid hv6
          clear hW5 hW6 hk6 hv6
          generalize w1.alloc (.cells #[.int .i64 (x.id.t + x.c - 1), .int .i64 x.id.s] 39) = W at *
          go_quiet (fail)
          have hkX : Kept (fun _ => False) wr (W.drewN nq) := HK6.out.drewN _
          have u0 : _ = some (Value.int .i64 x.id.t) := (HW6.out.drewN nq).cell' (i := 0) rfl
          have u1 : _ = some (Value.int .i64 x.id.s) := (HW6.out.drewN nq).cell' (i := 1) rfl
          have u2 : _ = some (Value.int .i64 (x.id.t + x.c - 1)) := (HV6.out.drewN nq).cell' (i := 0) rfl
          have hM2 := hM.keep hkX (fun h => h)
          obtain ⟨w7, hup0, hM7, hk7⟩ := run_updateK (P := Tryz.prog) (k := x.id.s) Tryz.underlying174 hM2 (.int .i64 (x.id.t + x.c - 1))
          have hup : (Instr.mapUpdate 174 (.map (some w.heap.size)) (.int .i64 x.id.s) (.int .i64 (x.id.t + x.c - 1))).run Tryz.prog (W.drewN nq) = .ok () w7 := hup0
          have REL : Hid (ChRel w w.heap.size L (.int .i64 ((0 : Nat) + 1 : Int)) w7) := ⟨0 + 1, _, by go_num, by omega, good_next X0.out GD.out HW.out, hM7, by rw [List.take_add_one, X0.out]; exact EN.out.snoc x, Kept.newer (hkw.trans hkX (fun _ _ h => h)) hk7 (Nat.le_refl _)⟩
          have hget := EN.out x.id.s
          have NF := Lib.hid (fun r hr ht => hform ((form_iff GD.out x).2 ⟨r, hr, ht⟩))
          clear hup0 hM7 hk7 hform
          cases hlo : lastOf (L.take (0)) x.id.s with
          | none =>
            rw [hlo] at hget
            have hlk : (Instr.lookup 174 (.map (some w.heap.size)) (.int .i64 x.id.s) true).run Tryz.prog (W.drewN nq) = .ok (.tuple #[.int .i64 0, .bool false]) (W.drewN nq) := run_lookupK_none_ok (K := intK) (k := x.id.s) Tryz.underlying174 hM2 hget (by kernel_rfl)
            clear hget hlo hM2
            go_wp2_with fail
            go_roundw
            case rel => exact REL.out
            case measure => simp [intOf]; omega
          | some r =>
            rw [hlo] at hget
            have hlk : (Instr.lookup 174 (.map (some w.heap.size)) (.int .i64 x.id.s) true).run Tryz.prog (W.drewN nq) = .ok (.tuple #[.int .i64 (r.id.t + r.c - 1), .bool true]) (W.drewN nq) := run_lookupK_ok (K := intK) (k := x.id.s) Tryz.underlying174 hM2 hget
            have rok := GD.out.ok r (lastOf_mem hlo).1
            have r1 := rok.2.2
            have r2 := rok.2.1
            have r3 := rok.1
            unfold ID.Is at r2
            obtain ⟨r4, r5, r6, r7⟩ := r2
            have hrt : r.id.t + r.c < x.id.t := Int.not_le.1 (NF.out r hlo)
            clear hget hlo hM2 rok
            go_wp2_with fail
            go_roundw
            case rel => exact REL.out
            case measure => simp [intOf]; omega
        · obtain ⟨m, rfl⟩ : ∃ m, n = m + 1 := ⟨n - 1, by omega⟩
          obtain ⟨p, hp'⟩ := get_of_lt (show m < L.length by omega)
          have hpl := hord p (take_last hp')
          obtain ⟨e0, e1, _⟩ := HC.out m p hp'
          have HW := Lib.hid hw
          have hIs := hok.2.1
          unfold ID.Is at hIs
          obtain ⟨j1, j2, j3, j4⟩ := hIs
          have j5 := hok.1
          have j6 := hok.2.2
          rw [last_ok hok] at hla
          have z1 : (x.id.t + x.c - 1 == 0) = false := beq_eq_false_iff_ne.2 (by omega)
          have z2 : (x.id.s == 0) = false := beq_eq_false_iff_ne.2 (by omega)
          have hcmp : ¬ x.id.cmp p.id ≤ 0 := Int.not_le.2 (cmp_gt.2 hpl)
          have hd : decide ((0 : Int) < (m : Int) + 1) = true := decide_eq_true (by omega)
          have hm0 : (0 : Int) ≤ m := by omega
          have hml : (m : Int) < L.length := by omega
          have hd2 : decide (x.id.cmp p.id ≤ 0) = false := by simpa using hcmp
          clear hok hw hpl hp' hcmp hord
          go_wp2_with fail
          refine hla.mono ?_
          rintro e w1 ⟨rfl, hg1⟩
          unfold idV
          have HG1 := Lib.hid hg1
          clear hg1 hla
          go_wp2_with fail
          have hW5 := HG1.out.box HB1.out
          have hW6 := hW5.alloc (.cells #[.int .i64 (x.id.t + x.c - 1), .int .i64 x.id.s] 39)
          have hk6 : Kept (fun _ => False) wr (w1.alloc (.cells #[.int .i64 (x.id.t + x.c - 1), .int .i64 x.id.s] 39)) := (HK1.out.trans HG1.out.kept (fun _ _ h => h)).alloc _
          have q0 : _ = some (Value.int .i64 x.id.t) := hW6.cell' (i := 0) rfl
          have q1 : _ = some (Value.int .i64 x.id.s) := hW6.cell' (i := 1) rfl
          have q2 := old_cell hk6 e0
          have q3 := old_cell hk6 e1
          have HW6 := Lib.hid hW6
          have HK6 := Lib.hid hk6
          have hv6 := Blk.new w1 39 #[.int .i64 (x.id.t + x.c - 1), .int .i64 x.id.s]
          have HV6 := Lib.hid hv6
          clear hW5 hW6 hk6 hv6
          generalize w1.alloc (.cells #[.int .i64 (x.id.t + x.c - 1), .int .i64 x.id.s] 39) = W at *
          have hw1 : IntKind.i64.wrap (m : Int) = (m : Int) := IntWalk.i64_in _ (by omega)
          go_region_held3 (fun w' => w'.cell? ⟨wr.heap.size, 0, none⟩ = some (.int .i64 x.id.t) ∧ w'.cell? ⟨wr.heap.size, 1, none⟩ = some (.int .i64 x.id.s) ∧ w'.cell? ⟨g, o + m * 3, none⟩ = some (.int .i64 p.id.t) ∧ w'.cell? ⟨g, o + m * 3 + 1, none⟩ = some (.int .i64 p.id.s)) (first | exact ⟨q0, q1, q2, q3⟩ | exact ⟨s0, s1, s2, s3⟩)
            (first
              | (go_simp; go_at_call 140; refine (compare_any x.id p.id _).mono ?_; rintro e w2 ⟨rfl, hg2⟩; have s0 : w2.cell? ⟨wr.heap.size, 0, none⟩ = some (.int .i64 x.id.t) := (hg2.box HW6.out).cell' rfl; have s1 : w2.cell? ⟨wr.heap.size, 1, none⟩ = some (.int .i64 x.id.s) := (hg2.box HW6.out).cell' rfl; have s2 := old_cell hg2.kept q2; have s3 := old_cell hg2.kept q3))
          clear hw1
          have hkX : Kept (fun _ => False) wr w2 := (HK6.out.drew).trans hg2.kept (fun _ _ h => h)
          have u0 : _ = some (Value.int .i64 x.id.t) := (hg2.box HW6.out).cell' (i := 0) rfl
          have u1 : _ = some (Value.int .i64 x.id.s) := (hg2.box HW6.out).cell' (i := 1) rfl
          have u2 : _ = some (Value.int .i64 (x.id.t + x.c - 1)) := (hg2.box HV6.out).cell' (i := 0) rfl
          have hM2 := hM.keep hkX (fun h => h)
          obtain ⟨w7, hup0, hM7, hk7⟩ := run_updateK (P := Tryz.prog) (k := x.id.s) Tryz.underlying174 hM2 (.int .i64 (x.id.t + x.c - 1))
          have hup : (Instr.mapUpdate 174 (.map (some w.heap.size)) (.int .i64 x.id.s) (.int .i64 (x.id.t + x.c - 1))).run Tryz.prog w2 = .ok () w7 := hup0
          have REL : Hid (ChRel w w.heap.size L (.int .i64 ((m + 1 : Nat) + 1 : Int)) w7) := ⟨m + 1 + 1, _, by go_num, by omega, good_next X0.out GD.out HW.out, hM7, by rw [List.take_add_one, X0.out]; exact EN.out.snoc x, Kept.newer (hkw.trans hkX (fun _ _ h => h)) hk7 (Nat.le_refl _)⟩
          have hget := EN.out x.id.s
          have NF := Lib.hid (fun r hr ht => hform ((form_iff GD.out x).2 ⟨r, hr, ht⟩))
          clear hup0 hM7 hk7 hform
          cases hlo : lastOf (L.take (m + 1)) x.id.s with
          | none =>
            rw [hlo] at hget
            have hlk : (Instr.lookup 174 (.map (some w.heap.size)) (.int .i64 x.id.s) true).run Tryz.prog w2 = .ok (.tuple #[.int .i64 0, .bool false]) w2 := run_lookupK_none_ok (K := intK) (k := x.id.s) Tryz.underlying174 hM2 hget (by kernel_rfl)
            clear hget hlo hM2
            go_wp2_with fail
            go_roundw
            case rel => exact REL.out
            case measure => simp [intOf]; omega
          | some r =>
            rw [hlo] at hget
            have hlk : (Instr.lookup 174 (.map (some w.heap.size)) (.int .i64 x.id.s) true).run Tryz.prog w2 = .ok (.tuple #[.int .i64 (r.id.t + r.c - 1), .bool true]) w2 := run_lookupK_ok (K := intK) (k := x.id.s) Tryz.underlying174 hM2 hget
            have rok := GD.out.ok r (lastOf_mem hlo).1
            have r1 := rok.2.2
            have r2 := rok.2.1
            have r3 := rok.1
            unfold ID.Is at r2
            obtain ⟨r4, r5, r6, r7⟩ := r2
            have hrt : r.id.t + r.c < x.id.t := Int.not_le.1 (NF.out r hlo)
            clear hget hlo hM2 rok
            go_wp2_with fail
            go_roundw
            case rel => exact REL.out
            case measure => simp [intOf]; omega
end Go.Proofs.YtaaeomapbigfgaaGreat.St
namespace Go.Proofs.YtaaeomapbigfgaaGreat.St
open Go.RowKit

theorem why_bad {pre : List Run} {x : Run} (h : ¬ x.Ok) : why pre x = 1 := by unfold why; rw [if_pos h]
theorem why_ord {pre : List Run} {x p : Run} (h : x.Ok) (hp : pre.getLast? = some p) (hl : ¬ p.id.lt x.id) : why pre x = 9 := by
  unfold why
  rw [if_neg (fun e => e h), if_pos ⟨p, hp, hl⟩]
theorem why_form {pre : List Run} {x p : Run} (h : x.Ok) (ho : ∀ p, pre.getLast? = some p → p.id.lt x.id) (hp : p ∈ pre) (h1 : p.id.s = x.id.s) (h2 : x.id.t ≤ p.id.t + p.c) : why pre x = 6 := by
  unfold why
  rw [if_neg (fun e => e h), if_neg (fun ⟨q, hq, hl⟩ => hl (ho q hq)), if_pos ⟨p, hp, h1, h2⟩]
theorem why_none {pre : List Run} {x : Run} (h : x.Ok) (ho : ∀ p, pre.getLast? = some p → p.id.lt x.id) (hn : ∀ p ∈ pre, ¬ (p.id.s = x.id.s ∧ x.id.t ≤ p.id.t + p.c)) : why pre x = 0 := by
  unfold why
  rw [if_neg (fun e => e h), if_neg (fun ⟨q, hq, hl⟩ => hl (ho q hq)), if_neg (fun ⟨q, hq, hl⟩ => hn q hq hl)]
theorem mem_take {α : Type} {l : List α} {n k : Nat} {p : α} (h : l[k]? = some p) (hk : k < n) : p ∈ l.take n := by
  refine List.mem_of_getElem? (i := k) ?_
  rw [List.getElem?_take, if_pos hk]
  exact h
theorem take_mem {α : Type} {l : List α} {n : Nat} {p : α} (h : p ∈ l.take n) : ∃ k, k < n ∧ l[k]? = some p := by
  obtain ⟨k, hk⟩ := List.getElem?_of_mem h
  rw [List.getElem?_take] at hk
  split at hk
  · exact ⟨k, by assumption, hk⟩
  · cases hk
/-- where Check's loop stands -/
def RcRel (w : World) (L : List Run) (iv : Value) (wr : World) : Prop :=
  ∃ n : Nat, iv = .int .i64 n ∧ n ≤ L.length ∧ Good (L.take n) ∧ Kept (fun _ => False) w wr
set_option maxRecDepth 100000 in
set_option maxHeartbeats 4000000 in
theorem rcheck_any {w : World} {v : Value} {L : List Run} (h : SlAt runE w v L) (hin : ∀ r ∈ L, r.In) (hb : L.length ≤ 1000000000) : Calls Tryz.prog 75 #[v] w fun e w' => ∃ c, e = .returned (.int .i64 c) ∧ CheckIs L c ∧ Kept (fun _ => False) w w' := by
  obtain ⟨a, c, rfl, _, _⟩ := h.sl
  have HI := Lib.hid hin
  have HS := Lib.hid h
  clear hin h
  go_enter Tryz.func75, Tryz.ntmps75
  go_wp2_with fail
  go_loopw [3] (fun iv wr => RcRel w L iv wr) (fun iv _ => L.length - (intOf iv).toNat)
  case atStart => exact ⟨0, rfl, Nat.zero_le _, fun n x hx => by simp at hx, Kept.refl _ _⟩
  case round =>
    obtain ⟨n, rfl, hn, hgood, hkw⟩ := hrel
    have GD := Lib.hid hgood
    clear hgood
    by_cases hlt : n < L.length
    case neg =>
      have hge : L.length ≤ n := by omega
      go_wp2_with fail
      go_ret
      exact ⟨0, rfl, .inl ⟨rfl, by have := GD.out; rwa [List.take_of_length_le hge] at this⟩, hkw⟩
    case pos =>
      obtain ⟨x, hx⟩ := get_of_lt hlt
      obtain ⟨g, o, c', hv, hglt, hc⟩ := SlAt.run (HS.out.kept hkw) (by omega)
      cases hv
      obtain ⟨c0, c1, c2⟩ := hc n x hx
      obtain ⟨i1, i2, i3⟩ := HI.out x (List.mem_of_getElem? hx)
      unfold I64 at i1 i2 i3
      have HC := Lib.hid hc
      have X0 := Lib.hid hx
      clear hc hx
      have hn0 : (0 : Int) ≤ n := by omega
      have hnl : (n : Int) < L.length := by omega
      have hisd := isid_core x.id.t x.id.s (wr.alloc (.cells #[.int .i64 x.id.t, .int .i64 x.id.s, .int .i64 x.c] 77))
      have HB1 := Lib.hid (Blk.new wr 77 #[.int .i64 x.id.t, .int .i64 x.id.s, .int .i64 x.c])
      have HK1 := Lib.hid (show Kept (fun _ => False) wr (wr.alloc (.cells #[.int .i64 x.id.t, .int .i64 x.id.s, .int .i64 x.c] 77)) from (Kept.refl _ _).alloc _)
      have KW := Lib.hid hkw
      clear hkw
      by_cases hc1 : x.c < 1
      · have HW := Lib.hid (why_bad (pre := L.take n) (x := x) (fun e => by have := e.1; omega))
        go_wp2_with fail
        go_ret
        exact ⟨1, rfl, .inr ⟨n, x, X0.out, GD.out, HW.out, by decide⟩, KW.out.trans HK1.out (fun _ _ h => h)⟩
      cases hb1 : isB x.id
      · have HW := Lib.hid (why_bad (pre := L.take n) (x := x) (fun e => by have := e.2.1; simp [isB, this] at hb1))
        rw [show isB ⟨x.id.t, x.id.s⟩ = false from hb1] at hisd
        clear hb1
        go_wp2_with fail
        refine hisd.mono ?_
        rintro e w1 ⟨rfl, hg1⟩
        go_wp2_with fail
        go_ret
        exact ⟨1, rfl, .inr ⟨n, x, X0.out, GD.out, HW.out, by decide⟩, (KW.out.trans HK1.out (fun _ _ h => h)).trans hg1.kept (fun _ _ h => h)⟩
      have hIs : x.id.Is := of_decide_eq_true hb1
      rw [show isB ⟨x.id.t, x.id.s⟩ = true from hb1] at hisd
      clear hb1
      have HIs := Lib.hid hIs
      unfold ID.Is at hIs
      obtain ⟨j1, j2, j3, j4⟩ := hIs
      by_cases hov : 2147483647 - x.id.t < x.c - 1
      · have HW := Lib.hid (why_bad (pre := L.take n) (x := x) (fun e => by have := e.2.2; omega))
        go_wp2_with fail
        refine hisd.mono ?_
        rintro e w1 ⟨rfl, hg1⟩
        have q0 : _ = some (Value.int .i64 x.id.t) := (hg1.box HB1.out).cell' (i := 0) rfl
        have q2 : _ = some (Value.int .i64 x.c) := (hg1.box HB1.out).cell' (i := 2) rfl
        go_wp2_with fail
        go_ret
        exact ⟨1, rfl, .inr ⟨n, x, X0.out, GD.out, HW.out, by decide⟩, (KW.out.trans HK1.out (fun _ _ h => h)).trans hg1.kept (fun _ _ h => h)⟩
      have OK := Lib.hid (show x.Ok from ⟨by omega, HIs.out, by omega⟩)
      go_wp2_with fail
      refine hisd.mono ?_
      rintro e w1 ⟨rfl, hg1⟩
      have hB2 := hg1.box HB1.out
      have hk2 := HK1.out.trans hg1.kept (fun _ _ h => h)
      have HB2 := Lib.hid hB2
      have HK2 := Lib.hid hk2
      have q0 : _ = some (Value.int .i64 x.id.t) := hB2.cell' (i := 0) rfl
      have q1 : _ = some (Value.int .i64 x.id.s) := hB2.cell' (i := 1) rfl
      have q2 : _ = some (Value.int .i64 x.c) := hB2.cell' (i := 2) rfl
      clear hB2 hk2 hg1 hisd HK1 HB1 c0 c1 c2
      have hcs : (∃ m p, n = m + 1 ∧ L[m]? = some p) ∨ n = 0 := by
        cases n with
        | zero => exact .inr rfl
        | succ m =>
          obtain ⟨p, hp⟩ := get_of_lt (show m < L.length by omega)
          exact .inl ⟨m, p, rfl, hp⟩
      rcases hcs with ⟨m, p, rfl, hp⟩ | hnz
      focus
        obtain ⟨p0, p1, _⟩ := HC.out m p hp
        have p0 := old_cell HK2.out p0
        have p1 := old_cell HK2.out p1
        have P0 := Lib.hid hp
        have hm0 : (0 : Int) ≤ m := by omega
        have hml : (m : Int) < L.length := by omega
        have hw1 : IntKind.i64.wrap (m : Int) = (m : Int) := IntWalk.i64_in _ (by omega)
        have hd : decide ((0 : Int) < (m : Int) + 1) = true := decide_eq_true (by omega)
        clear hp
        by_cases hord : p.id.lt x.id
        case neg =>
          have hd2 : decide ((0 : Int) ≤ p.id.cmp x.id) = true := decide_eq_true (Int.not_lt.1 fun e => hord (cmp_lt.1 e))
          have HW := Lib.hid (why_ord OK.out (take_last P0.out) hord)
          clear hord
          go_wp2_with fail
          go_region_held3 (fun w' => w'.cell? ⟨wr.heap.size, 0, none⟩ = some (.int .i64 x.id.t) ∧ w'.cell? ⟨wr.heap.size, 1, none⟩ = some (.int .i64 x.id.s) ∧ w'.cell? ⟨g, o + m * 3, none⟩ = some (.int .i64 p.id.t) ∧ w'.cell? ⟨g, o + m * 3 + 1, none⟩ = some (.int .i64 p.id.s)) (first | exact ⟨q0, q1, p0, p1⟩) (first | (go_simp; go_at_call 94; refine (rcompare_any p.id x.id _).mono ?_; rintro e w2 ⟨rfl, hg2⟩; have q0 := old_cell hg2.kept q0; have q1 := old_cell hg2.kept q1; have p0 := old_cell hg2.kept p0; have p1 := old_cell hg2.kept p1))
          go_wp2_with fail
          go_ret
          exact ⟨9, rfl, .inr ⟨m + 1, x, X0.out, GD.out, HW.out, by decide⟩, KW.out.trans (HK2.out.drew.trans hg2.kept (fun _ _ h => h)) (fun _ _ h => h)⟩
        have hd2 : decide ((0 : Int) ≤ p.id.cmp x.id) = false := decide_eq_false (by have := cmp_lt.2 hord; omega)
        have ORD : Hid (∀ p, (L.take (m + 1)).getLast? = some p → p.id.lt x.id) := fun q hq => by
          cases Option.some.inj (hq.symm.trans (take_last P0.out))
          exact hord
        clear hord
        go_wp2_with fail
        go_region_held3 (fun w' => w'.cell? ⟨wr.heap.size, 0, none⟩ = some (.int .i64 x.id.t) ∧ w'.cell? ⟨wr.heap.size, 1, none⟩ = some (.int .i64 x.id.s) ∧ w'.cell? ⟨g, o + m * 3, none⟩ = some (.int .i64 p.id.t) ∧ w'.cell? ⟨g, o + m * 3 + 1, none⟩ = some (.int .i64 p.id.s)) (first | exact ⟨q0, q1, p0, p1⟩) (first | (go_simp; go_at_call 94; refine (rcompare_any p.id x.id _).mono ?_; rintro e w2 ⟨rfl, hg2⟩; have q0 := old_cell hg2.kept q0; have q1 := old_cell hg2.kept q1; have p0 := old_cell hg2.kept p0; have p1 := old_cell hg2.kept p1))
        go_wp2_with fail
        have KX := Lib.hid (HK2.out.drew.trans hg2.kept (fun _ _ h => h))
        have BX := Lib.hid (hg2.box HB2.out)
        clear hg2 p0 p1 q0 q1 q2 hd hd2 hw1 hm0 hml P0 HK2 HB2
        rw [show (m : Int) + 1 = ((m + 1 : Nat) : Int) from rfl]
        generalize hmn : m + 1 = n at *
        generalize w2 = W at *
      rotate_left
      focus
        have hd : decide ((0 : Int) < n) = false := decide_eq_false (by omega)
        have hd' : decide (0 < n) = false := decide_eq_false (by omega)
        have ORD : Hid (∀ p, (L.take n).getLast? = some p → p.id.lt x.id) := fun q hq => by simp [hnz] at hq
        clear hnz
        go_wp2_with fail
        go_quiet (fail)
        have KX := Lib.hid (HK2.out.drewN nq)
        have BX := Lib.hid (HB2.out.drewN nq)
        generalize w1.drewN nq = W at *
        clear hd hd' q0 q1 q2 HK2 HB2
      all_goals
        have hns : n < L.length := hlt
        go_wp2_with fail
        go_loopw [5] (fun kv w6 => ∃ k : Nat, kv = .int .i64 k ∧ k ≤ n ∧ (∀ (j : Nat) (p : Run), j < k → L[j]? = some p → ¬ (p.id.s = x.id.s ∧ x.id.t ≤ p.id.t + p.c)) ∧ Kept (fun _ => False) W w6) (fun kv _ => n - (intOf kv).toNat)
        case atStart => exact ⟨0, rfl, Nat.zero_le _, fun j p hj _ => by omega, Kept.refl _ _⟩
        case round =>
          obtain ⟨k, rfl, hk, hno, hk6⟩ := hrel
          have NO := Lib.hid hno
          clear hno
          by_cases hkn : k < n
          case neg =>
            have HW := Lib.hid (why_none OK.out ORD.out (fun q hq => by
              obtain ⟨j, hj, hq⟩ := take_mem hq
              exact NO.out j q (by omega) hq))
            have hkz : ¬ (k : Int) < n := by omega
            go_wp2_with fail
            go_roundw
            case rel => exact ⟨n + 1, by go_num, by omega, good_next X0.out GD.out HW.out, KW.out.trans (KX.out.trans hk6 (fun _ _ h => h)) (fun _ _ h => h)⟩
            case measure => simp [intOf] <;> omega
          case pos =>
            obtain ⟨p, hp⟩ := get_of_lt (show k < L.length by omega)
            obtain ⟨r0, r1, r2⟩ := HC.out k p hp
            have hk7 := KX.out.trans hk6 (fun _ _ h => h)
            have r0 := old_cell hk7 r0
            have r1 := old_cell hk7 r1
            have r2 := old_cell hk7 r2
            have hB7 := hk6.blk (fun h => h) BX.out
            have q0 : _ = some (Value.int .i64 x.id.t) := hB7.cell' (i := 0) rfl
            have q1 : _ = some (Value.int .i64 x.id.s) := hB7.cell' (i := 1) rfl
            obtain ⟨l1, l2, l3⟩ := GD.out.ok p (mem_take hp hkn)
            unfold ID.Is at l2
            obtain ⟨l4, l5, l6, l7⟩ := l2
            have hk0 : (0 : Int) ≤ k := by omega
            have hkI : (k : Int) < n := by omega
            have hkL : (k : Int) < L.length := by omega
            have P0 := Lib.hid hp
            clear hp hB7 hk7
            by_cases e1 : p.id.s = x.id.s
            · have e1b : (p.id.s == x.id.s) = true := by simpa using e1
              by_cases e2 : x.id.t ≤ p.id.t + p.c
              · have HW := Lib.hid (why_form OK.out ORD.out (mem_take P0.out hkn) e1 e2)
                have e2b : decide (x.id.t ≤ p.id.t + p.c) = true := decide_eq_true e2
                clear e1 e2
                go_wp2_with fail
                go_quiet (fail)
                go_wp2_with fail
                go_ret
                exact ⟨6, rfl, .inr ⟨n, x, X0.out, GD.out, HW.out, by decide⟩, KW.out.trans ((KX.out.trans hk6 (fun _ _ h => h)).drewN _) (fun _ _ h => h)⟩
              · have e2b : decide (x.id.t ≤ p.id.t + p.c) = false := decide_eq_false e2
                have E2 := Lib.hid e2
                clear e1 e2
                go_wp2_with fail
                go_quiet (fail)
                go_wp2_with fail
                go_roundw
                case rel =>
                  refine ⟨k + 1, by go_num, by omega, fun j q hj hq => ?_, hk6.drewN _⟩
                  by_cases hjk : j = k
                  · subst hjk; cases Option.some.inj (P0.out.symm.trans hq); exact fun h => by have h1 := E2.out; have h2 := h.2; omega
                  · exact NO.out j q (by omega) hq
                case measure => simp [intOf] <;> omega
            · have e1b : (p.id.s == x.id.s) = false := by simpa using e1
              have E1 := Lib.hid e1
              clear e1
              go_wp2_with fail
              go_quiet (fail)
              go_wp2_with fail
              go_roundw
              case rel =>
                refine ⟨k + 1, by go_num, by omega, fun j q hj hq => ?_, hk6.drewN _⟩
                by_cases hjk : j = k
                · subst hjk; cases Option.some.inj (P0.out.symm.trans hq); exact fun h => E1.out h.1
                · exact NO.out j q (by omega) hq
              case measure => simp [intOf] <;> omega
end Go.Proofs.YtaaeomapbigfgaaGreat.St
