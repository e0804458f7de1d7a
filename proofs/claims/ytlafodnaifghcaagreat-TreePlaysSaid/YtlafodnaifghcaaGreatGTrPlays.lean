/- hearsaylaw11.TreePlays, walked. -/
import Derived.Test.YtlafodnaifghcaaGreatG40
namespace Go.Proofs.YtlafodnaifghcaaGreat.Tr
open Go.RowKit Go.Sort Go.Proofs.YtlafodnaifghcaaGreat.St Go.Proofs.YtlafodnaifghcaaGreat Go.Proofs.YtlafodnaifghcaaGreat.Gl
attribute [local go_sem] Oper.semAt_some
set_option maxRecDepth 100000 in
set_option maxHeartbeats 8000000 in
theorem plays_any {w : World} {v : Value} {L : List StV} (zb : Bool) (h : SlAt stE w v L) (hs : StepsIn w L) :
    Calls Tryz.prog 3 #[.bool zb, v] w fun e w' => e = .returned (.bool true) ∧ Kept (fun _ => False) w w' := by
  obtain ⟨la, lc, rfl, _, _⟩ := h.sl
  have HL := Lib.hid h
  have HS := Lib.hid hs
  have MU := Lib.hid (much_any h fun s hm => by obtain ⟨rs, h9⟩ := hs s hm; exact h9.text)
  clear h hs
  cases zb
  all_goals
    go_enter Tryz.func3, Tryz.ntmps3
    go_wp2_with (first | (go_at_call 7; refine MU.out.mono ?_; rintro e w1 ⟨b, rfl, hfew, rfl⟩) | (go_at_call 8; refine (known_any _).mono ?_; rintro e w1 ⟨rfl, hk⟩) | (go_at_call 9; refine (new_any _).mono ?_; rintro e w1 ⟨rfl, rfl⟩))
    · go_ret
      exact ⟨rfl, hk⟩
    have hbf : b = false := by assumption
    subst hbf
    have FW := Lib.hid (hfew rfl)
    have FL := FW.out.len
    clear hfew MU
    first
    | (have J := Lib.hid (pt_made ((Kept.refl (fun _ => False) w).alloc (.cells #[.slice none 0 0, .map none] 30))).boxed
       rw [World.size_alloc, World.size_alloc] at J
       obtain ⟨z, hz⟩ : ∃ z, w.heap.size + 1 + 1 = z := ⟨_, rfl⟩
       rw [hz] at J ⊢)
    | (have J := Lib.hid (pt_made (Kept.refl (fun _ => False) w)).boxed
       rw [World.size_alloc] at J
       obtain ⟨z, hz⟩ : ∃ z, w.heap.size + 1 = z := ⟨_, rfl⟩
       rw [hz] at J ⊢)
    clear hz
  all_goals
    go_loopw [5, 7] (fun tv iv wr => ∃ (n : Nat) (g : Nat) (va : Option Addr) (vc : Nat) (M : List Nd) (Y : Nat → Prop), tv = .pointer (some ⟨g, 0, none⟩) ∧ iv = .int .i64 n ∧ n ≤ L.length ∧ PJ w z g M (.slice va M.length vc) Y wr ∧ OkN M (textN (L.take n))) (fun _ iv _ => L.length - (intOf iv).toNat)
    case atStart => exact ⟨0, _, none, 0, [], _, rfl, rfl, Nat.zero_le _, J.out, okN_nil _⟩
    case round =>
      obtain ⟨n, g, va, vc, M, Y, rfl, rfl, hn, hj, ho⟩ := hrel
      have hn0 : (0 : Int) ≤ n := by omega
      by_cases hlt : n < L.length
      case neg =>
        have hnl : ¬ (n : Int) < L.length := by omega
        have HK := Lib.hid hj.kept
        clear hj ho
        go_wp2_with (go_at_call 8; refine (known_any _).mono ?_; rintro e w1 ⟨rfl, hk⟩)
        go_ret
        exact ⟨rfl, HK.out.trans hk fun _ _ h => h⟩
      case pos =>
        have hnl : (n : Int) < L.length := by omega
        obtain ⟨x, hx⟩ := get_of_lt hlt
        have hxm := List.mem_of_getElem? hx
        obtain ⟨rs, hst⟩ := HS.out x hxm
        have hfx := FW.out.each x hxm
        have hN : textN (L.take n) ≤ 20000 := Nat.le_trans (textN_take L n) FW.out.all
        have htk : textN (L.take (n + 1)) = textN (L.take n) + x.text.size := by rw [show L.take (n + 1) = L.take n ++ [x] by rw [List.take_add_one, hx]; rfl, textN_snoc]
        obtain ⟨lg, lo, lc', e2, _, hcs⟩ := SlAt.stepc (HL.out.kept hj.kept) (by omega)
        cases e2
        obtain ⟨c0, c1, c2, c3, c4, c5, c6, c7, c8⟩ := hcs n x hx
        have e1 : IntKind.i64.wrap ((n : Int) + 1) = (n : Int) + 1 := IntWalk.i64_in _ (by omega)
        have HD := Lib.hid (does_any hj.drew.pt ho (by omega) hst (hst.len hfx.1) (by omega))
        have ho2 := ho.step x rs
        rw [← htk] at ho2
        have OK2 := Lib.hid ho2
        obtain ⟨M2, hM2⟩ : ∃ M2, goOn x rs M = M2 := ⟨_, rfl⟩
        rw [hM2] at HD OK2
        have q0 := hj.cell
        have HJ := Lib.hid hj.drew
        have N2 : Hid (textN (L.take (n + 1)) ≤ 20000) := Lib.hid (Nat.le_trans (textN_take L (n + 1)) FW.out.all)
        clear hcs hx hxm hst hfx hN htk hj ho ho2 hM2
        go_upto_region 13 with fail
        go_region_with (go_at_call 10; refine HD.out.mono ?_; rintro e w7 ⟨g', ua, uc, rfl, hp, hk⟩; have P7 := Lib.hid (HJ.out.does hp hk).1; have bz := hk.blk HJ.out.far.2 HJ.out.box; have q1 := bz.cell' (i := 0) (v := .slice va M.length vc) rfl; have qf := bz.frozen 0; clear hp hk bz)
        all_goals
          have q2 := P7.out.cell
          go_wp2_with (go_at_call 11; (first | refine (P7.out.pt.alike (Nat.le_trans OK2.out.len (by have := N2.out; omega)) fun n hn => (OK2.out.ok n hn).1).mono ?_ | refine (P7.out.drew.pt.alike (Nat.le_trans OK2.out.len (by have := N2.out; omega)) fun n hn => (OK2.out.ok n hn).1).mono ?_); rintro e w8 ⟨rfl, hk8⟩; (first | have J8 := Lib.hid (P7.out.still hk8) | have J8 := Lib.hid (P7.out.drew.still hk8)); clear hk8)
          go_roundw
          case rel => exact ⟨n + 1, _, _, _, _, _, rfl, by go_num, by omega, J8.out, OK2.out⟩
          case measure => simp [intOf]; omega
end Go.Proofs.YtlafodnaifghcaaGreat.Tr
