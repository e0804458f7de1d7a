/- hearsayref6.Has. -/
import Derived.Test.YtdbnohlignpeaaaStRefCheck
import Derived.Test.YtdbnohlignpeaaaStHas
namespace Go.Proofs.Ytdbnohlignpeaaa.St
open Go.RowKit

set_option maxRecDepth 100000 in
set_option maxHeartbeats 4000000 in
theorem rhas_any {w : World} {v : Value} {L : List Run} (h : SlAt runE w v L) (hin : ∀ r ∈ L, r.In) (hb : L.length ≤ 1000000000) (x : ID) (hx : I64 x.t) :
    Calls Try.prog 25 #[v, idV x] w fun e w' => ∃ b, e = .returned (.bool b) ∧ HasIs L x b ∧ Kept (fun _ => False) w w' := by
  have hk0 : Kept (fun _ => False) w (w.alloc (.cells #[.int .i64 x.t, .int .i64 x.s] 23)) := (Kept.refl _ _).alloc _
  have hb0 := Blk.new w 23 #[.int .i64 x.t, .int .i64 x.s]
  have hc := rcheck_any (h.kept hk0) hin hb
  have HS := Lib.hid h
  have K0 := Lib.hid hk0
  have B0 := Lib.hid hb0
  have HI := Lib.hid hin
  obtain ⟨a, c, rfl, _, _⟩ := h.sl
  obtain ⟨hx1, hx2⟩ := hx
  clear hb0 hk0 h hin
  unfold idV
  go_enter Try.func25, Try.ntmps25
  go_wp2_with fail
  refine hc.mono ?_
  rintro e w2 ⟨ce, rfl, hce, hk2⟩
  have C := Lib.hid hce
  clear hc
  by_cases h0 : ce = 0
  case neg =>
    have hne : (ce != 0) = true := by simpa using h0
    have HW := Lib.hid (hasIs_bad (x := x) (fun hg => h0 (C.out.good.1 hg)))
    clear h0 hce
    go_wp2_with fail
    go_ret
    exact ⟨false, rfl, HW.out, K0.out.trans hk2 (fun _ _ h => h)⟩
  case pos =>
    subst h0
    have HG := Lib.hid (C.out.good.2 rfl)
    have K2 := Lib.hid (K0.out.trans hk2 (fun _ _ h => h))
    have B2 := Lib.hid (hk2.blk (fun h => h) B0.out)
    clear hce C hk2 K0 B0
    go_wp2_with fail
    go_loopw [5] (fun iv wr => ∃ n : Nat, iv = .int .i64 n ∧ n ≤ L.length ∧ (∀ (j : Nat) (r : Run), j < n → L[j]? = some r → ¬ (r.id.s = x.s ∧ r.id.t ≤ x.t ∧ x.t < r.id.t + r.c)) ∧ Kept (fun _ => False) w2 wr) (fun iv _ => L.length - (intOf iv).toNat)
    case atStart => exact ⟨0, rfl, Nat.zero_le _, fun j r hj _ => by omega, Kept.refl _ _⟩
    case round =>
      obtain ⟨n, rfl, hn, hno, hkw⟩ := hrel
      have NO := Lib.hid hno
      clear hno
      by_cases hlt : n < L.length
      case neg =>
        have HW : Hid (HasIs L x false) := ⟨fun e => (nomatch e), fun e => by
          obtain ⟨_, r, hr, hh⟩ := e
          obtain ⟨j, hj⟩ := List.getElem?_of_mem hr
          have hjl := (List.getElem?_eq_some_iff.1 hj).1
          exact absurd hh (NO.out j r (by omega) hj)⟩
        go_wp2_with fail
        go_ret
        exact ⟨false, rfl, HW.out, K2.out.trans hkw (fun _ _ h => h)⟩
      case pos =>
        obtain ⟨r, hr⟩ := get_of_lt hlt
        obtain ⟨g, o, c', hv, hglt, hcs⟩ := SlAt.run (HS.out.kept (K2.out.trans hkw (fun _ _ h => h))) (by omega)
        cases hv
        obtain ⟨c0, c1, c2⟩ := hcs n r hr
        obtain ⟨l1, l2, l3⟩ := HG.out.ok r (List.mem_of_getElem? hr)
        unfold ID.Is at l2
        obtain ⟨l4, l5, l6, l7⟩ := l2
        have R0 := Lib.hid hr
        have hB := (hkw.blk (fun h => h) B2.out).alloc (.cells #[.int .i64 r.id.t, .int .i64 r.id.s, .int .i64 r.c] 35)
        have b0 : _ = some (Value.int .i64 x.t) := hB.cell' (i := 0) rfl
        have b1 : _ = some (Value.int .i64 x.s) := hB.cell' (i := 1) rfl
        have hn0 : (0 : Int) ≤ n := by omega
        have hnl : (n : Int) < L.length := by omega
        clear hr hcs hB
        by_cases e1 : r.id.s = x.s
        · have e1b : (r.id.s == x.s) = true := by simpa using e1
          by_cases e2 : r.id.t ≤ x.t
          · by_cases e3 : x.t - r.id.t < r.c
            · have HW : Hid (HasIs L x true) := ⟨fun _ => ⟨HG.out, r, List.mem_of_getElem? R0.out, e1, e2, by omega⟩, fun _ => rfl⟩
              clear e1
              go_wp2_with fail
              go_ret
              exact ⟨true, rfl, HW.out, K2.out.trans (hkw.alloc _) (fun _ _ h => h)⟩
            · have E3 := Lib.hid e3
              clear e1
              go_wp2_with fail
              go_roundw
              case rel =>
                refine ⟨n + 1, by go_num, by omega, fun j q hj hq => ?_, hkw.alloc _⟩
                by_cases hjk : j = n
                · subst hjk; cases Option.some.inj (R0.out.symm.trans hq); exact fun h => by have h1 := E3.out; have h2 := h.2.2; omega
                · exact NO.out j q (by omega) hq
              case measure => simp [intOf] <;> omega
          · have E2 := Lib.hid e2
            clear e1
            go_wp2_with fail
            go_roundw
            case rel =>
              refine ⟨n + 1, by go_num, by omega, fun j q hj hq => ?_, hkw.alloc _⟩
              by_cases hjk : j = n
              · subst hjk; cases Option.some.inj (R0.out.symm.trans hq); exact fun h => by have h1 := E2.out; have h2 := h.2.1; omega
              · exact NO.out j q (by omega) hq
            case measure => simp [intOf] <;> omega
        · have e1b : (r.id.s == x.s) = false := by simpa using e1
          have E1 := Lib.hid e1
          clear e1
          go_wp2_with fail
          go_roundw
          case rel =>
            refine ⟨n + 1, by go_num, by omega, fun j q hj hq => ?_, hkw.alloc _⟩
            by_cases hjk : j = n
            · subst hjk; cases Option.some.inj (R0.out.symm.trans hq); exact fun h => E1.out h.1
            · exact NO.out j q (by omega) hq
          case measure => simp [intOf] <;> omega
end Go.Proofs.Ytdbnohlignpeaaa.St
