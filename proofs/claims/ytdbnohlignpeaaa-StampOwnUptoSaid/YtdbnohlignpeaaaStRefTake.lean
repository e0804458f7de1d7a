/- hearsayref6: TakeNumber, TakeText. -/
import Derived.Test.YtdbnohlignpeaaaStRefRead
import Derived.Laws.Bits64b
import Derived.StillTailTactics
namespace Go.Proofs.Ytdbnohlignpeaaa.St
open Go.RowKit

theorem bits_or_i64_nat (a b : Nat) (ha : a < 9223372036854775808) (hb : b < 9223372036854775808) :
    bits .or .i64 (a : Int) (b : Int) = ((a ||| b : Nat) : Int) := by
  have hx : a ||| b < 2 ^ 63 := Nat.or_lt_two_pow (by omega) (by omega)
  have h1 : (BitVec.ofInt 64 (a : Int)).toNat = a := by
    rw [BitVec.ofInt_natCast, BitVec.toNat_ofNat]; exact Nat.mod_eq_of_lt (by omega)
  have h2 : (BitVec.ofInt 64 (b : Int)).toNat = b := by
    rw [BitVec.ofInt_natCast, BitVec.toNat_ofNat]; exact Nat.mod_eq_of_lt (by omega)
  show IntKind.i64.wrap ((BitVec.ofInt 64 (a : Int) ||| BitVec.ofInt 64 (b : Int)).toNat : Int) = _
  rw [BitVec.toNat_or, h1, h2, IntKind.wrap_i64]
  omega
theorem or_shift_i64 (v x n : Nat) (hv : v < 128 ^ n) (hx : x < 128) (hn : n ≤ 8) : bits .or .i64 (v : Int) (IntKind.i64.wrap ((x : Int) * 2 ^ (7 * n))) = ((v + x * 128 ^ n : Nat) : Int) ∧ v + x * 128 ^ n < 128 ^ (n + 1) := by
  have e : (128 : Nat) ^ n = 2 ^ (7 * n) := by rw [Nat.pow_mul]
  have h9 : (128 : Nat) ^ n ≤ 128 ^ 8 := Nat.pow_le_pow_right (by decide) hn
  have h8 : (128 : Nat) ^ 8 = 72057594037927936 := by decide
  have hxp : x * 128 ^ n ≤ 127 * 128 ^ n := Nat.mul_le_mul_right _ (by omega)
  have hb : v + x * 128 ^ n < 128 ^ (n + 1) := by rw [Nat.pow_succ]; omega
  refine ⟨?_, hb⟩
  have ew : IntKind.i64.wrap ((x : Int) * 2 ^ (7 * n)) = ((x * 128 ^ n : Nat) : Int) := by
    rw [e]
    rw [show ((x : Int) * 2 ^ (7 * n)) = ((x * 2 ^ (7 * n) : Nat) : Int) by simp]
    rw [← e]
    generalize x * 128 ^ n = y at *
    rw [IntKind.wrap_i64]
    omega
  rw [ew, bits_or_i64_nat v (x * 128 ^ n) (by omega) (by omega)]
  have ho := Nat.shiftLeft_add_eq_or_of_lt (b := v) (i := 7 * n) (by rw [← e]; exact hv) x
  rw [Nat.shiftLeft_eq, ← e] at ho
  rw [Nat.or_comm, ← ho, Nat.add_comm]
theorem or_wrap (x : Int) : IntKind.i64.wrap x = wrap64 x := by rw [IntKind.wrap_i64]; unfold wrap64; rfl
/-- TakeNumber: the number, where it stands then, the error -/
def rtN (L : List UInt8) (p : Nat) (e : Int) : Nat × Nat × Int :=
  if e ≠ 0 then (0, p, e) else if (takeN (L.drop p) 0 0).1 ≠ 0 then (0, p, (takeN (L.drop p) 0 0).1) else ((takeN (L.drop p) 0 0).2.1, L.length - (takeN (L.drop p) 0 0).2.2.length, 0)
set_option maxRecDepth 100000 in
set_option maxHeartbeats 4000000 in
theorem rrnum_ok {w : World} {a : Option Addr} {c : Nat} {L : List UInt8} (h : SlAt byteE w (.slice a L.length c) L) (hL : L.length ≤ 1000000000) (p : Nat) (hp : p ≤ L.length) :
    Calls Try.prog 71 #[.agg #[.slice a L.length c, .int .i64 p, .int .i64 0]] w fun e' w' => e' = .returned (.tuple #[.int .i64 (rtN L p 0).1, .agg #[.slice a L.length c, .int .i64 (rtN L p 0).2.1, .int .i64 (rtN L p 0).2.2]]) ∧ Grew w w' := by
  have HS := Lib.hid h
  have hp0 : (0 : Int) ≤ p := by omega
  have hpL : (p : Int) ≤ L.length := by omega
  have hLI : (L.length : Int) ≤ 1000000000 := by omega
  clear h
  go_enter Try.func71, Try.ntmps71
  go_wp2_with fail
  go_loop [4, 6] (fun vv iv => ∃ (v i : Nat), vv = .int .i64 v ∧ iv = .int .i64 i ∧ p + i ≤ L.length ∧ i ≤ 8 ∧ v < 128 ^ i ∧ takeN (L.drop (p + i)) i v = takeN (L.drop p) 0 0) (fun _ iv => L.length - (intOf iv).toNat)
  case atStart => exact ⟨0, 0, rfl, rfl, hp, by omega, by decide, rfl⟩
  case round =>
    obtain ⟨v, i, rfl, rfl, hpi, hi8, hv, ht⟩ := hrel
    have TT := Lib.hid ht
    have HV := Lib.hid hv
    have hi0 : (0 : Int) ≤ i := by omega
    have hi8' : (i : Int) ≤ 8 := by omega
    have hpiI : (p : Int) + i ≤ L.length := by omega
    clear ht hv
    by_cases hlt : p + i < L.length
    case neg =>
      have hge : (L.length : Int) ≤ (p : Int) + i := by omega
      have hR : Hid (rtN L p 0 = (0, p, 5)) := by
        show rtN L p 0 = _
        have hte : takeN (L.drop p) 0 0 = (5, 0, []) := by rw [← TT.out, List.drop_eq_nil_of_le (by omega)]; rfl
        unfold rtN; rw [hte]; rfl
      go_wp2_with fail
      all_goals
        go_region
        go_wp2_with fail
        refine bodyPost_ret (v := .tuple #[.int .i64 0, .agg #[.slice a L.length c, .int .i64 p, .int .i64 5]]) (by simp [results, Try.results71, go_sem]) rfl ⟨by rw [hR.out]; first | rfl | (simp; omega), (((Grew.refl w).alloc _).alloc _).drew⟩
    case pos =>
      obtain ⟨b, hb⟩ := get_of_lt hlt
      obtain ⟨g, o, cc, hvv, _, _, _, hcell⟩ := SlAt.byte HS.out (by omega)
      cases hvv
      have cb := hcell (p + i) b hb
      have TD : Hid (takeN (b :: L.drop (p + i + 1)) i v = takeN (L.drop p) 0 0) := by show takeN _ _ _ = _; rw [← drop_get hb]; exact TT.out
      have hk := UInt8.toNat_lt b
      generalize hkk : b.toNat = k at *
      have KK := Lib.hid hkk
      have hk2 : (k : Int) ≤ 255 := by omega
      have hnl : (p : Int) + i < L.length := by omega
      have hnL : (L.length - (p + i) : Nat) ≤ L.length := by omega
      clear hkk hcell hb hk
      by_cases h128 : 128 ≤ k
      · have h128' : (128 : Int) ≤ k := by omega
        by_cases h8 : i = 8
        · subst h8
          have hR : Hid (rtN L p 0 = (0, p, 6)) := by
            show rtN L p 0 = _
            have hte : takeN (L.drop p) 0 0 = (6, 0, []) := by rw [← TD.out]; unfold takeN; rw [KK.out, if_pos h128, if_pos rfl]
            unfold rtN; rw [hte]; rfl
          go_wp2_with fail
          all_goals
            go_region
            go_wp2_with fail
            refine bodyPost_ret (v := .tuple #[.int .i64 0, .agg #[.slice (some ⟨g, o, none⟩) L.length c, .int .i64 p, .int .i64 6]]) (by simp [results, Try.results71, go_sem]) rfl ⟨by rw [hR.out]; first | rfl | (simp; omega), (((Grew.refl w).alloc _).alloc _).drew⟩
        · have h8' : ((i : Int) == 8) = false := beq_eq_false_iff_ne.2 (by omega)
          have hmod : (k : Int) % 128 = ((k - 128 : Nat) : Int) := by omega
          obtain ⟨o1, o2⟩ := or_shift_i64 v (k - 128) i HV.out (by omega) hi8
          have hte : Hid (takeN (L.drop (p + i + 1)) (i + 1) (v + (k - 128) * 128 ^ i) = takeN (L.drop p) 0 0) := by show takeN _ _ _ = _; rw [← TD.out]; conv => rhs; unfold takeN; rw [KK.out, if_pos h128, if_neg h8]
          rw [or_wrap] at o1
          generalize v + (k - 128) * 128 ^ i = y at *
          have O2 := Lib.hid o2
          clear o2
          go_wp2_with fail
          go_round
          case rel => exact ⟨y, i + 1, rfl, by go_num, by omega, by omega, O2.out, hte.out⟩
          case measure => simp [intOf]; omega
      · have h128' : ¬ (128 : Int) ≤ k := by omega
        have hmod : (k : Int) % 128 = (k : Int) := by omega
        by_cases h0 : k = 0 ∧ 0 < i
        · obtain ⟨rfl, h0n⟩ := h0
          have h0n' : (0 : Int) < i := by omega
          have hR : Hid (rtN L p 0 = (0, p, 6)) := by
            show rtN L p 0 = _
            have hte : takeN (L.drop p) 0 0 = (6, 0, []) := by rw [← TD.out]; unfold takeN; rw [KK.out, if_neg h128, if_pos ⟨rfl, h0n⟩]
            unfold rtN; rw [hte]; rfl
          go_wp2_with fail
          all_goals
            go_region
            go_wp2_with fail
            refine bodyPost_ret (v := .tuple #[.int .i64 0, .agg #[.slice (some ⟨g, o, none⟩) L.length c, .int .i64 p, .int .i64 6]]) (by simp [results, Try.results71, go_sem]) rfl ⟨by rw [hR.out]; first | rfl | (simp; omega), (((Grew.refl w).alloc _).alloc _).drew⟩
        · obtain ⟨o1, o2⟩ := or_shift_i64 v k i HV.out (by omega) hi8
          have hle : L.length - (L.drop (p + i + 1)).length = p + i + 1 := by rw [List.length_drop]; omega
          have hR : Hid (rtN L p 0 = (v + k * 128 ^ i, p + i + 1, 0)) := by
            show rtN L p 0 = _
            have hte : takeN (L.drop p) 0 0 = (0, v + k * 128 ^ i, L.drop (p + i + 1)) := by rw [← TD.out]; unfold takeN; rw [KK.out, if_neg h128, if_neg h0]
            unfold rtN; rw [hte, if_neg (by simp), if_neg (by simp)]; simp only []; rw [hle]
          rw [or_wrap] at o1
          generalize v + k * 128 ^ i = y at *
          clear o2 hle
          rcases (show (k : Int) ≠ 0 ∨ ((k : Int) = 0 ∧ i = 0) by omega) with hz | ⟨hz, rfl⟩
          · have hz' : ((k : Int) == 0) = false := beq_eq_false_iff_ne.2 hz
            clear hz
            rcases (show i = 8 ∨ (i : Int) ≠ 8 by omega) with rfl | h8
            · have hw8 : wrap64 ((k : Int) * 2 ^ (7 * 8)) = (k : Int) * 72057594037927936 := by
                rw [show (2 : Int) ^ (7 * 8) = 72057594037927936 by decide]
                unfold wrap64
                omega
              rw [hw8] at o1
              clear hw8
              go_wp2_with fail
              all_goals
                go_region
                go_wp2_with fail
                refine bodyPost_ret (v := .tuple #[.int .i64 y, .agg #[.slice (some ⟨g, o, none⟩) L.length c, .int .i64 ((p : Int) + 8 + 1), .int .i64 0]]) (by simp [results, Try.results71, go_sem]) rfl ⟨by rw [hR.out]; first | rfl | (simp; done) | (simp; omega), (((Grew.refl w).alloc _).alloc _).drew⟩
            · have h8' : ((i : Int) == 8) = false := beq_eq_false_iff_ne.2 h8
              clear h8
              go_wp2_with fail
              all_goals
                go_region
                go_wp2_with fail
                refine bodyPost_ret (v := .tuple #[.int .i64 y, .agg #[.slice (some ⟨g, o, none⟩) L.length c, .int .i64 ((p : Int) + i + 1), .int .i64 0]]) (by simp [results, Try.results71, go_sem]) rfl ⟨by rw [hR.out]; first | rfl | (simp; done) | (simp; omega), (((Grew.refl w).alloc _).alloc _).drew⟩
          · obtain rfl : k = 0 := by omega
            have hv0 : v < 1 := HV.out
            obtain rfl : v = 0 := by simpa using hv0
            have e0 : bits .or .i64 ((0 : Nat) : Int) (wrap64 (((0 : Nat) : Int) * 2 ^ (7 * 0))) = 0 := by kernel_rfl
            obtain rfl : y = 0 := by rw [e0] at o1; omega
            rw [Nat.add_zero] at cb
            have hb00 : bits .or .i64 0 0 = 0 := by kernel_rfl
            clear o1 e0 hv0 hz
            go_wp2_with fail
            all_goals
              go_region
              go_wp2_with fail
              refine bodyPost_ret (v := .tuple #[.int .i64 0, .agg #[.slice (some ⟨g, o, none⟩) L.length c, .int .i64 ((p : Int) + 1), .int .i64 0]]) (by simp [results, Try.results71, go_sem]) rfl ⟨by rw [hR.out]; first | rfl | (simp; done) | (simp; omega), (((Grew.refl w).alloc _).alloc _).drew⟩
end Go.Proofs.Ytdbnohlignpeaaa.St
