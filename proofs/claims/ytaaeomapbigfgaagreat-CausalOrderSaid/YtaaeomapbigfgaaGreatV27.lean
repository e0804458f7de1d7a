/- hearsayref6.Check. op.of and op.Check of a join. -/
import Derived.Test.YtaaeomapbigfgaaGreatV23
import Derived.Test.YtaaeomapbigfgaaGreatV26
import Derived.Test.YtaaeomapbigfgaaGreatV10
import Derived.Laws.EntriesVeiled
import Derived.Deep.CutBlock
namespace Go.Proofs.YtaaeomapbigfgaaGreat.St
open Go.RowKit

theorem why_bad {pre : List Run} {x : Run} (h : ¬ x.Ok) : why pre x = 1 := by unfold why; rw [if_pos h]
theorem why_ord {pre : List Run} {x p : Run} (h : x.Ok) (hp : pre.getLast? = some p) (hl : ¬ p.id.lt x.id) : why pre x = 9 := by
  unfold why
  rw [if_neg (fun e => e h), if_pos ⟨p, hp, hl⟩]
theorem why_form {pre : List Run} {x p : Run} (h : x.Ok) (ho : ∀ p, pre.getLast? = some p → p.id.lt x.id) (hp : p ∈ pre) (h1 : p.id.s = x.id.s) (h2 : x.id.t ≤ p.id.t + p.c) : why pre x = 6 := by
  unfold why
  rw [if_neg (fun e => e h), if_neg (fun ⟨q, hq, hl⟩ => hl (ho q hq)), if_pos ⟨p, hp, h1, h2⟩]
theorem why_none {pre : List Run} {x : Run} (h : x.Ok) (ho : ∀ p, pre.getLast? = some p → p.id.lt x.id) (hn : ∀ p ∈ pre, ¬ (p.id.s = x.id.s ∧ x.id.t ≤ p.id.t + p.c)) : why pre x = 0 := by
  unfold why
  rw [if_neg (fun e => e h), if_neg (fun ⟨q, hq, hl⟩ => hl (ho q hq)), if_neg (fun ⟨q, hq, hl⟩ => hn q hq hl)]
theorem mem_take {α : Type} {l : List α} {n k : Nat} {p : α} (h : l[k]? = some p) (hk : k < n) : p ∈ l.take n := by
  refine List.mem_of_getElem? (i := k) ?_
  rw [List.getElem?_take, if_pos hk]
  exact h
theorem take_mem {α : Type} {l : List α} {n : Nat} {p : α} (h : p ∈ l.take n) : ∃ k, k < n ∧ l[k]? = some p := by
  obtain ⟨k, hk⟩ := List.getElem?_of_mem h
  rw [List.getElem?_take] at hk
  split at hk
  · exact ⟨k, by assumption, hk⟩
  · cases hk
/-- where Check's loop stands -/
def RcRel (w : World) (L : List Run) (iv : Value) (wr : World) : Prop :=
  ∃ n : Nat, iv = .int .i64 n ∧ n ≤ L.length ∧ Good (L.take n) ∧ Kept (fun _ => False) w wr
set_option maxRecDepth 100000 in
set_option maxHeartbeats 4000000 in
theorem rcheck_any {w : World} {v : Value} {L : List Run} (h : SlAt runE w v L) (hin : ∀ r ∈ L, r.In) (hb : L.length ≤ 1000000000) : Calls Tryz.prog 75 #[v] w fun e w' => ∃ c, e = .returned (.int .i64 c) ∧ CheckIs L c ∧ Kept (fun _ => False) w w' := by
  obtain ⟨a, c, rfl, _, _⟩ := h.sl
  have HI := Lib.hid hin
  have HS := Lib.hid h
  clear hin h
  go_enter Tryz.func75, Tryz.ntmps75
  go_wp2_with fail
  go_loopw [3] (fun iv wr => RcRel w L iv wr) (fun iv _ => L.length - (intOf iv).toNat)
  case atStart => exact ⟨0, rfl, Nat.zero_le _, fun n x hx => by simp at hx, Kept.refl _ _⟩
  case round =>
    obtain ⟨n, rfl, hn, hgood, hkw⟩ := hrel
    have GD := Lib.hid hgood
    clear hgood
    by_cases hlt : n < L.length
    case neg =>
      have hge : L.length ≤ n := by omega
      go_wp2_with fail
      go_ret
      exact ⟨0, rfl, .inl ⟨rfl, by have := GD.out; rwa [List.take_of_length_le hge] at this⟩, hkw⟩
    case pos =>
      obtain ⟨x, hx⟩ := get_of_lt hlt
      obtain ⟨g, o, c', hv, hglt, hc⟩ := SlAt.run (HS.out.kept hkw) (by omega)
      cases hv
      obtain ⟨c0, c1, c2⟩ := hc n x hx
      obtain ⟨i1, i2, i3⟩ := HI.out x (List.mem_of_getElem? hx)
      unfold I64 at i1 i2 i3
      have HC := Lib.hid hc
      have X0 := Lib.hid hx
      clear hc hx
      have hn0 : (0 : Int) ≤ n := by omega
      have hnl : (n : Int) < L.length := by omega
      have hisd := isid_core x.id.t x.id.s (wr.alloc (.cells #[.int .i64 x.id.t, .int .i64 x.id.s, .int .i64 x.c] 77))
      have HB1 := Lib.hid (Blk.new wr 77 #[.int .i64 x.id.t, .int .i64 x.id.s, .int .i64 x.c])
      have HK1 := Lib.hid (show Kept (fun _ => False) wr (wr.alloc (.cells #[.int .i64 x.id.t, .int .i64 x.id.s, .int .i64 x.c] 77)) from (Kept.refl _ _).alloc _)
      have KW := Lib.hid hkw
      clear hkw
      by_cases hc1 : x.c < 1
      · have HW := Lib.hid (why_bad (pre := L.take n) (x := x) (fun e => by have := e.1; omega))
        go_wp2_with fail
        go_ret
        exact ⟨1, rfl, .inr ⟨n, x, X0.out, GD.out, HW.out, by decide⟩, KW.out.trans HK1.out (fun _ _ h => h)⟩
      cases hb1 : isB x.id
      · have HW := Lib.hid (why_bad (pre := L.take n) (x := x) (fun e => by have := e.2.1; simp [isB, this] at hb1))
        rw [show isB ⟨x.id.t, x.id.s⟩ = false from hb1] at hisd
        clear hb1
        go_wp2_with fail
        refine hisd.mono ?_
        rintro e w1 ⟨rfl, hg1⟩
        go_wp2_with fail
        go_ret
        exact ⟨1, rfl, .inr ⟨n, x, X0.out, GD.out, HW.out, by decide⟩, (KW.out.trans HK1.out (fun _ _ h => h)).trans hg1.kept (fun _ _ h => h)⟩
      have hIs : x.id.Is := of_decide_eq_true hb1
      rw [show isB ⟨x.id.t, x.id.s⟩ = true from hb1] at hisd
      clear hb1
      have HIs := Lib.hid hIs
      unfold ID.Is at hIs
      obtain ⟨j1, j2, j3, j4⟩ := hIs
      by_cases hov : 2147483647 - x.id.t < x.c - 1
      · have HW := Lib.hid (why_bad (pre := L.take n) (x := x) (fun e => by have := e.2.2; omega))
        go_wp2_with fail
        refine hisd.mono ?_
        rintro e w1 ⟨rfl, hg1⟩
        have q0 : _ = some (Value.int .i64 x.id.t) := (hg1.box HB1.out).cell' (i := 0) rfl
        have q2 : _ = some (Value.int .i64 x.c) := (hg1.box HB1.out).cell' (i := 2) rfl
        go_wp2_with fail
        go_ret
        exact ⟨1, rfl, .inr ⟨n, x, X0.out, GD.out, HW.out, by decide⟩, (KW.out.trans HK1.out (fun _ _ h => h)).trans hg1.kept (fun _ _ h => h)⟩
      have OK := Lib.hid (show x.Ok from ⟨by omega, HIs.out, by omega⟩)
      go_wp2_with fail
      refine hisd.mono ?_
      rintro e w1 ⟨rfl, hg1⟩
      have hB2 := hg1.box HB1.out
      have hk2 := HK1.out.trans hg1.kept (fun _ _ h => h)
      have HB2 := Lib.hid hB2
      have HK2 := Lib.hid hk2
      have q0 : _ = some (Value.int .i64 x.id.t) := hB2.cell' (i := 0) rfl
      have q1 : _ = some (Value.int .i64 x.id.s) := hB2.cell' (i := 1) rfl
      have q2 : _ = some (Value.int .i64 x.c) := hB2.cell' (i := 2) rfl
      clear hB2 hk2 hg1 hisd HK1 HB1 c0 c1 c2
      have hcs : (∃ m p, n = m + 1 ∧ L[m]? = some p) ∨ n = 0 := by
        cases n with
        | zero => exact .inr rfl
        | succ m =>
          obtain ⟨p, hp⟩ := get_of_lt (show m < L.length by omega)
          exact .inl ⟨m, p, rfl, hp⟩
      rcases hcs with ⟨m, p, rfl, hp⟩ | hnz
      focus
        obtain ⟨p0, p1, _⟩ := HC.out m p hp
        have p0 := old_cell HK2.out p0
        have p1 := old_cell HK2.out p1
        have P0 := Lib.hid hp
        have hm0 : (0 : Int) ≤ m := by omega
        have hml : (m : Int) < L.length := by omega
        have hw1 : IntKind.i64.wrap (m : Int) = (m : Int) := IntWalk.i64_in _ (by omega)
        have hd : decide ((0 : Int) < (m : Int) + 1) = true := decide_eq_true (by omega)
        clear hp
        by_cases hord : p.id.lt x.id
        case neg =>
          have hd2 : decide ((0 : Int) ≤ p.id.cmp x.id) = true := decide_eq_true (Int.not_lt.1 fun e => hord (cmp_lt.1 e))
          have HW := Lib.hid (why_ord OK.out (take_last P0.out) hord)
          clear hord
          go_wp2_with fail
          go_region_held3 (fun w' => w'.cell? ⟨wr.heap.size, 0, none⟩ = some (.int .i64 x.id.t) ∧ w'.cell? ⟨wr.heap.size, 1, none⟩ = some (.int .i64 x.id.s) ∧ w'.cell? ⟨g, o + m * 3, none⟩ = some (.int .i64 p.id.t) ∧ w'.cell? ⟨g, o + m * 3 + 1, none⟩ = some (.int .i64 p.id.s)) (first | exact ⟨q0, q1, p0, p1⟩) (first | (go_simp; go_at_call 94; refine (rcompare_any p.id x.id _).mono ?_; rintro e w2 ⟨rfl, hg2⟩; have q0 := old_cell hg2.kept q0; have q1 := old_cell hg2.kept q1; have p0 := old_cell hg2.kept p0; have p1 := old_cell hg2.kept p1))
          go_wp2_with fail
          go_ret
          exact ⟨9, rfl, .inr ⟨m + 1, x, X0.out, GD.out, HW.out, by decide⟩, KW.out.trans (HK2.out.drew.trans hg2.kept (fun _ _ h => h)) (fun _ _ h => h)⟩
        have hd2 : decide ((0 : Int) ≤ p.id.cmp x.id) = false := decide_eq_false (by have := cmp_lt.2 hord; omega)
        have ORD : Hid (∀ p, (L.take (m + 1)).getLast? = some p → p.id.lt x.id) := fun q hq => by
          cases Option.some.inj (hq.symm.trans (take_last P0.out))
          exact hord
        clear hord
        go_wp2_with fail
        go_region_held3 (fun w' => w'.cell? ⟨wr.heap.size, 0, none⟩ = some (.int .i64 x.id.t) ∧ w'.cell? ⟨wr.heap.size, 1, none⟩ = some (.int .i64 x.id.s) ∧ w'.cell? ⟨g, o + m * 3, none⟩ = some (.int .i64 p.id.t) ∧ w'.cell? ⟨g, o + m * 3 + 1, none⟩ = some (.int .i64 p.id.s)) (first | exact ⟨q0, q1, p0, p1⟩) (first | (go_simp; go_at_call 94; refine (rcompare_any p.id x.id _).mono ?_; rintro e w2 ⟨rfl, hg2⟩; have q0 := old_cell hg2.kept q0; have q1 := old_cell hg2.kept q1; have p0 := old_cell hg2.kept p0; have p1 := old_cell hg2.kept p1))
        go_wp2_with fail
        have KX := Lib.hid (HK2.out.drew.trans hg2.kept (fun _ _ h => h))
        have BX := Lib.hid (hg2.box HB2.out)
        clear hg2 p0 p1 q0 q1 q2 hd hd2 hw1 hm0 hml P0 HK2 HB2
        rw [show (m : Int) + 1 = ((m + 1 : Nat) : Int) from rfl]
        generalize hmn : m + 1 = n at *
        generalize w2 = W at *
      rotate_left
      focus
        have hd : decide ((0 : Int) < n) = false := decide_eq_false (by omega)
        have hd' : decide (0 < n) = false := decide_eq_false (by omega)
        have ORD : Hid (∀ p, (L.take n).getLast? = some p → p.id.lt x.id) := fun q hq => by simp [hnz] at hq
        clear hnz
        go_wp2_with fail
        go_quiet (fail)
        have KX := Lib.hid (HK2.out.drewN nq)
        have BX := Lib.hid (HB2.out.drewN nq)
        generalize w1.drewN nq = W at *
        clear hd hd' q0 q1 q2 HK2 HB2
      all_goals
        have hns : n < L.length := hlt
        go_wp2_with fail
        go_loopw [5] (fun kv w6 => ∃ k : Nat, kv = .int .i64 k ∧ k ≤ n ∧ (∀ (j : Nat) (p : Run), j < k → L[j]? = some p → ¬ (p.id.s = x.id.s ∧ x.id.t ≤ p.id.t + p.c)) ∧ Kept (fun _ => False) W w6) (fun kv _ => n - (intOf kv).toNat)
        case atStart => exact ⟨0, rfl, Nat.zero_le _, fun j p hj _ => by omega, Kept.refl _ _⟩
        case round =>
          obtain ⟨k, rfl, hk, hno, hk6⟩ := hrel
          have NO := Lib.hid hno
          clear hno
          by_cases hkn : k < n
          case neg =>
            have HW := Lib.hid (why_none OK.out ORD.out (fun q hq => by
              obtain ⟨j, hj, hq⟩ := take_mem hq
              exact NO.out j q (by omega) hq))
            have hkz : ¬ (k : Int) < n := by omega
            go_wp2_with fail
            go_roundw
            case rel => exact ⟨n + 1, by go_num, by omega, good_next X0.out GD.out HW.out, KW.out.trans (KX.out.trans hk6 (fun _ _ h => h)) (fun _ _ h => h)⟩
            case measure => simp [intOf] <;> omega
          case pos =>
            obtain ⟨p, hp⟩ := get_of_lt (show k < L.length by omega)
            obtain ⟨r0, r1, r2⟩ := HC.out k p hp
            have hk7 := KX.out.trans hk6 (fun _ _ h => h)
            have r0 := old_cell hk7 r0
            have r1 := old_cell hk7 r1
            have r2 := old_cell hk7 r2
            have hB7 := hk6.blk (fun h => h) BX.out
            have q0 : _ = some (Value.int .i64 x.id.t) := hB7.cell' (i := 0) rfl
            have q1 : _ = some (Value.int .i64 x.id.s) := hB7.cell' (i := 1) rfl
            obtain ⟨l1, l2, l3⟩ := GD.out.ok p (mem_take hp hkn)
            unfold ID.Is at l2
            obtain ⟨l4, l5, l6, l7⟩ := l2
            have hk0 : (0 : Int) ≤ k := by omega
            have hkI : (k : Int) < n := by omega
            have hkL : (k : Int) < L.length := by omega
            have P0 := Lib.hid hp
            clear hp hB7 hk7
            by_cases e1 : p.id.s = x.id.s
            · have e1b : (p.id.s == x.id.s) = true := by simpa using e1
              by_cases e2 : x.id.t ≤ p.id.t + p.c
              · have HW := Lib.hid (why_form OK.out ORD.out (mem_take P0.out hkn) e1 e2)
                have e2b : decide (x.id.t ≤ p.id.t + p.c) = true := decide_eq_true e2
                clear e1 e2
                go_wp2_with fail
                go_quiet (fail)
                go_wp2_with fail
                go_ret
                exact ⟨6, rfl, .inr ⟨n, x, X0.out, GD.out, HW.out, by decide⟩, KW.out.trans ((KX.out.trans hk6 (fun _ _ h => h)).drewN _) (fun _ _ h => h)⟩
              · have e2b : decide (x.id.t ≤ p.id.t + p.c) = false := decide_eq_false e2
                have E2 := Lib.hid e2
                clear e1 e2
                go_wp2_with fail
                go_quiet (fail)
                go_wp2_with fail
                go_roundw
                case rel =>
                  refine ⟨k + 1, by go_num, by omega, fun j q hj hq => ?_, hk6.drewN _⟩
                  by_cases hjk : j = k
                  · subst hjk; cases Option.some.inj (P0.out.symm.trans hq); exact fun h => by have h1 := E2.out; have h2 := h.2; omega
                  · exact NO.out j q (by omega) hq
                case measure => simp [intOf] <;> omega
            · have e1b : (p.id.s == x.id.s) = false := by simpa using e1
              have E1 := Lib.hid e1
              clear e1
              go_wp2_with fail
              go_quiet (fail)
              go_wp2_with fail
              go_roundw
              case rel =>
                refine ⟨k + 1, by go_num, by omega, fun j q hj hq => ?_, hk6.drewN _⟩
                by_cases hjk : j = k
                · subst hjk; cases Option.some.inj (P0.out.symm.trans hq); exact fun h => E1.out h.1
                · exact NO.out j q (by omega) hq
              case measure => simp [intOf] <;> omega
end Go.Proofs.YtaaeomapbigfgaaGreat.St
namespace Go.Proofs.YtaaeomapbigfgaaGreat
open Go.RowKit Go.Proofs.YtaaeomapbigfgaaGreat.St
set_option maxRecDepth 100000 in
set_option maxHeartbeats 4000000 in
theorem of_join {w : World} {x : OpV} (hk : x.kind = 3) : Calls Tryz.prog 63 #[.agg (opA x)] w fun e w' => e = .returned (.iface 112 (.agg #[.int .i64 x.site])) ∧ Grew w w' := by
  have hB := Blk.new w 42 (opA x)
  have k0 : Grew w (w.alloc (.cells (opA x) 42)) := (Grew.refl _).alloc _
  have b3 : (w.alloc (.cells (opA x) 42)).cell? ⟨w.heap.size, 3, none⟩ = some (.int .i64 3) := by rw [← hk]; exact hB.cell' (i := 3) rfl
  have b10 : (w.alloc (.cells (opA x) 42)).cell? ⟨w.heap.size, 10, none⟩ = some (.int .i64 x.site) := hB.cell' (i := 10) rfl
  clear hB
  go_enter Tryz.func63, Tryz.ntmps63
  go_wp2_with fail
  go_ret
  exact ⟨rfl, k0⟩
/-- an operation that is a join and nothing else -/
structure OpV.Join (x : OpV) : Prop where
  kind : x.kind = 3
  id : x.id = ⟨0, 0⟩
  ref : x.ref = ⟨0, 0⟩
  text : x.text = ⟨#[]⟩
  gone : x.gone.n = 0
  site : 1 ≤ x.site ∧ x.site ≤ 16
set_option maxRecDepth 100000 in
set_option maxHeartbeats 4000000 in
theorem rest_any {w : World} (x : OpV) : Calls Tryz.prog 128 #[.agg (opA x)] w fun e w' => e = .returned (.agg #[.int .i64 x.id.t, .int .i64 x.id.s, .int .i64 x.ref.t, .int .i64 x.ref.s, .string x.text, .int .i64 x.site]) ∧ Grew w w' := by
  have hB := (Blk.new w 42 (opA x)).alloc (.cells #[.int .i64 0, .int .i64 0, .int .i64 0, .int .i64 0, .string ⟨#[]⟩, .int .i64 0] 170)
  have hR := Blk.new (w.alloc (.cells (opA x) 42)) 170 #[.int .i64 0, .int .i64 0, .int .i64 0, .int .i64 0, .string ⟨#[]⟩, .int .i64 0]
  have k0 : Grew w ((w.alloc (.cells (opA x) 42)).alloc (.cells #[.int .i64 0, .int .i64 0, .int .i64 0, .int .i64 0, .string ⟨#[]⟩, .int .i64 0] 170)) := ((Grew.refl _).alloc _).alloc _
  rw [World.size_alloc] at hR
  go_enter Tryz.func128, Tryz.ntmps128
  go_upto_region 1 with fail
  generalize ((w.alloc (.cells (opA x) 42)).alloc (.cells #[.int .i64 0, .int .i64 0, .int .i64 0, .int .i64 0, .string ⟨#[]⟩, .int .i64 0] 170)) = W at *
  have b4 : W.cell? ⟨w.heap.size, 4, none⟩ = some (.int .i64 x.id.t) := hB.cell' (i := 4) rfl
  have b5 : W.cell? ⟨w.heap.size, 5, none⟩ = some (.int .i64 x.id.s) := hB.cell' (i := 5) rfl
  have b6 : W.cell? ⟨w.heap.size, 6, none⟩ = some (.int .i64 x.ref.t) := hB.cell' (i := 6) rfl
  have b7 : W.cell? ⟨w.heap.size, 7, none⟩ = some (.int .i64 x.ref.s) := hB.cell' (i := 7) rfl
  have b8 : W.cell? ⟨w.heap.size, 8, none⟩ = some (.string x.text) := hB.cell' (i := 8) rfl
  have b10 : W.cell? ⟨w.heap.size, 10, none⟩ = some (.int .i64 x.site) := hB.cell' (i := 10) rfl
  have HR := Lib.hid hR
  have K0 := Lib.hid k0
  have SZ : (Tryz.prog.info? 170).map (·.size) = some 6 := by kernel_rfl
  have HZ := Lib.hid SZ
  clear hB hR k0 SZ
  go_wp2_with (refine wpList_store_row rfl 170 _ _ rfl (w.heap.size + 1) #[.int .i64 x.id.t, .int .i64 x.id.s, .int .i64 x.ref.t, .int .i64 x.ref.s, .string x.text, .int .i64 x.site] rfl rfl 170 #[.int .i64 0, .int .i64 0, .int .i64 0, .int .i64 0, .string ⟨#[]⟩, .int .i64 0] HR.out HZ.out rfl (by simp [Value.oneCell']) ?_)
  exact bodyPost_ret (Blk.result rfl _ (HR.out.row _) rfl Tryz.underlying170 rfl HZ.out) rfl ⟨rfl, K0.out.setRow (by omega) _⟩
set_option maxRecDepth 100000 in
set_option maxHeartbeats 8000000 in
theorem right_join {w : World} {x : OpV} (hx : x.Join) : Calls Tryz.prog 144 #[.agg #[.int .i64 x.site], .agg (opA x)] w fun e w' => e = .returned (.bool true) ∧ Grew w w' := by
  have hmix : Tryz.prog.follows .mixedOrders = true := by kernel_rfl
  have hS := (Blk.new w 112 #[.int .i64 x.site]).alloc (.cells (opA x) 42)
  have hB := Blk.new (w.alloc (.cells #[.int .i64 x.site] 112)) 42 (opA x)
  have k0 : Grew w ((w.alloc (.cells #[.int .i64 x.site] 112)).alloc (.cells (opA x) 42)) := ((Grew.refl _).alloc _).alloc _
  rw [World.size_alloc] at hB
  have s0 : ((w.alloc (.cells #[.int .i64 x.site] 112)).alloc (.cells (opA x) 42)).heap.size = w.heap.size + 2 := by simp
  have h1 := hx.site.1
  have h2 := hx.site.2
  obtain ⟨W, hW⟩ : ∃ W, ((w.alloc (.cells #[.int .i64 x.site] 112)).alloc (.cells (opA x) 42)) = W := ⟨_, rfl⟩
  rw [hW] at hS hB k0 s0
  have s1 := cell_grown (w := W) (by show w.heap.size < _; omega) (show W.cell? ⟨w.heap.size, 0, none⟩ = some (.int .i64 x.site) from hS.cell' (i := 0) rfl)
  have b0 := cell_grown (w := W) (by show w.heap.size + 1 < _; omega) (show W.cell? ⟨w.heap.size + 1, 0, none⟩ = some (.int .i64 x.dot.site) from hB.cell' (i := 0) rfl)
  have b1 := cell_grown (w := W) (by show w.heap.size + 1 < _; omega) (show W.cell? ⟨w.heap.size + 1, 1, none⟩ = some (.int .i64 x.dot.seq) from hB.cell' (i := 1) rfl)
  have b2 := cell_grown (w := W) (by show w.heap.size + 1 < _; omega) (show W.cell? ⟨w.heap.size + 1, 2, none⟩ = some (.slice x.deps.a x.deps.n x.deps.c) from hB.cell' (i := 2) rfl)
  have b3 := cell_grown (w := W) (by show w.heap.size + 1 < _; omega) (show W.cell? ⟨w.heap.size + 1, 3, none⟩ = some (.int .i64 x.kind) from hB.cell' (i := 3) rfl)
  have b4 := cell_grown (w := W) (by show w.heap.size + 1 < _; omega) (show W.cell? ⟨w.heap.size + 1, 4, none⟩ = some (.int .i64 0) from (hB.cell' (i := 4) rfl : W.cell? ⟨w.heap.size + 1, 4, none⟩ = some (.int .i64 x.id.t)).trans (by rw [hx.id]))
  have b5 := cell_grown (w := W) (by show w.heap.size + 1 < _; omega) (show W.cell? ⟨w.heap.size + 1, 5, none⟩ = some (.int .i64 0) from (hB.cell' (i := 5) rfl : W.cell? ⟨w.heap.size + 1, 5, none⟩ = some (.int .i64 x.id.s)).trans (by rw [hx.id]))
  have b6 := cell_grown (w := W) (by show w.heap.size + 1 < _; omega) (show W.cell? ⟨w.heap.size + 1, 6, none⟩ = some (.int .i64 0) from (hB.cell' (i := 6) rfl : W.cell? ⟨w.heap.size + 1, 6, none⟩ = some (.int .i64 x.ref.t)).trans (by rw [hx.ref]))
  have b7 := cell_grown (w := W) (by show w.heap.size + 1 < _; omega) (show W.cell? ⟨w.heap.size + 1, 7, none⟩ = some (.int .i64 0) from (hB.cell' (i := 7) rfl : W.cell? ⟨w.heap.size + 1, 7, none⟩ = some (.int .i64 x.ref.s)).trans (by rw [hx.ref]))
  have b8 := cell_grown (w := W) (by show w.heap.size + 1 < _; omega) (show W.cell? ⟨w.heap.size + 1, 8, none⟩ = some (.string ⟨#[]⟩) from (hB.cell' (i := 8) rfl : W.cell? ⟨w.heap.size + 1, 8, none⟩ = some (.string x.text)).trans (by rw [hx.text]))
  have b9 := cell_grown (w := W) (by show w.heap.size + 1 < _; omega) (show W.cell? ⟨w.heap.size + 1, 9, none⟩ = some (.slice x.gone.a 0 x.gone.c) from (hB.cell' (i := 9) rfl : W.cell? ⟨w.heap.size + 1, 9, none⟩ = some (.slice x.gone.a x.gone.n x.gone.c)).trans (by rw [hx.gone]))
  have b10 := cell_grown (w := W) (by show w.heap.size + 1 < _; omega) (show W.cell? ⟨w.heap.size + 1, 10, none⟩ = some (.int .i64 x.site) from hB.cell' (i := 10) rfl)
  have HR := Lib.hid (fun (w' : World) (_ : Grew W w') => rest_any (w := w') x)
  have hrest : (#[.int .i64 x.id.t, .int .i64 x.id.s, .int .i64 x.ref.t, .int .i64 x.ref.s, .string x.text, .int .i64 x.site] : Array Value) = #[.int .i64 0, .int .i64 0, .int .i64 0, .int .i64 0, .string ⟨#[]⟩, .int .i64 x.site] := by rw [hx.id, hx.ref, hx.text]
  rw [hrest] at HR
  have HX := Lib.hid hx
  have K0 := Lib.hid k0
  have HW := Lib.hid hW
  have HOP : opA x = #[.int .i64 x.dot.site, .int .i64 x.dot.seq, .slice x.deps.a x.deps.n x.deps.c, .int .i64 x.kind, .int .i64 0, .int .i64 0, .int .i64 0, .int .i64 0, .string ⟨#[]⟩, .slice x.gone.a 0 x.gone.c, .int .i64 x.site] := by
    have : opA x = #[.int .i64 x.dot.site, .int .i64 x.dot.seq, .slice x.deps.a x.deps.n x.deps.c, .int .i64 x.kind, .int .i64 x.id.t, .int .i64 x.id.s, .int .i64 x.ref.t, .int .i64 x.ref.s, .string x.text, .slice x.gone.a x.gone.n x.gone.c, .int .i64 x.site] := rfl
    rw [this, hx.id, hx.ref, hx.text, hx.gone]
  have HOP2 := Lib.hid HOP
  clear hx hS hB k0 s0 hW hrest HOP
  go_enter Tryz.func144, Tryz.ntmps144
  go_wp2_with fail
  rw [HW.out]
  go_quiet_grown (first
    | (go_at_call 128; rw [← HOP2.out]; exact grown_call HR.out _ _))
  go_wp2_with fail
  go_ret
  exact ⟨rfl, K0.out.trans (Grew.grown _ _)⟩
end Go.Proofs.YtaaeomapbigfgaaGreat
