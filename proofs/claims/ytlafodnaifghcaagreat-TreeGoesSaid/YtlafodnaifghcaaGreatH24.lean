/- hearsayref1: Decode, Pieces (with the runes), BadAt, Good and Count. Contracts of the library at this translation: the numbers. slices.SortFunc of identifiers, on a row of the call's own. slices.Compact of identifiers, on a row of the call's own. Keys of Pack's and Check's maps. stamp.Pack: what it does to any identifiers. -/
import Derived.Test.YtlafodnaifghcaaGreatH23
import Derived.Test.YtlafodnaifghcaaGreatH5
import Derived.Deep.DeepCutAuto
import Derived.Test.YtlafodnaifghcaaGreatChecked
import Derived.Shelf.SlSortCmp.NoneTotal
import Derived.Test.YtlafodnaifghcaaGreatH14
import Derived.Maps.AppendAt
namespace Go.Proofs.YtlafodnaifghcaaGreat
open Go.RowKit Go.Proofs.YtlafodnaifghcaaGreat.Gl
set_option maxRecDepth 100000 in
set_option maxHeartbeats 2000000 in
theorem rdecode_any {s : ByteArray} {i : Nat} (hs : s.size ≤ 1000000) (hi : i < s.size) (w : World) : Calls Tryz.prog 115 #[.string s, .int .i64 i] w fun e w' => e = .returned (.tuple #[.int .i32 ((Utf8.decode s i).1 : Nat), .int .i64 (stepW s i), .bool (decide (runeW s i ≠ 0))]) ∧ Kept (fun _ => False) w w' := by
  have hiI : (i : Int) < s.size := by omega
  have hi0 : (0 : Int) ≤ i := by omega
  have HB := Lib.hid (begins_any hs hi w)
  clear hs
  by_cases h0 : runeW s i = 0
  · rw [h0] at HB
    have A3 := Lib.hid ((decode_runeW s i).2 h0)
    have A1 := Lib.hid (show stepW s i = 1 from if_pos h0)
    have A2 := Lib.hid (show decide (runeW s i ≠ 0) = false from decide_eq_false (fun h => h h0))
    clear h0
    go_enter Tryz.func115, Tryz.ntmps115
    go_wp2_with (go_at_call 130; refine HB.out.mono ?_; rintro e w' ⟨⟨r, rfl, _⟩, q, rfl⟩)
    go_ret3
    exact ⟨by rw [A1.out, A2.out, A3.out]; rfl, (Kept.refl _ _).drewN _⟩
  · obtain ⟨n, hn⟩ : ∃ n, runeW s i = n := ⟨_, rfl⟩
    rw [hn] at HB
    have A1 := Lib.hid (show stepW s i = n by unfold stepW; rw [if_neg h0, hn])
    have A2 := Lib.hid (show decide (runeW s i ≠ 0) = true from decide_eq_true h0)
    have hnb : ((n : Int) == 0) = false := beq_eq_false_iff_ne.2 (by omega)
    have A3 := Lib.hid (show n ≠ 0 by omega)
    obtain ⟨d, hd⟩ : ∃ d, (Utf8.decode s i).1 = d := ⟨_, rfl⟩
    rw [hd] at HB ⊢
    clear h0 hn hd
    go_enter Tryz.func115, Tryz.ntmps115
    go_wp2_with (go_at_call 130; refine HB.out.mono ?_; rintro e w' ⟨⟨r, rfl, hr⟩, q, rfl⟩; obtain rfl := hr A3.out; clear hr)
    go_ret3
    exact ⟨by rw [A1.out, A2.out]; rfl, (Kept.refl _ _).drewN _⟩
namespace Gl
/-- a piece as it stands in cells -/
structure Pc where
  at_ : Int
  r : Int
  n : Int
  ok : Bool
def pcE : Enc Pc := ⟨4, fun p => [.int .i64 p.at_, .int .i32 p.r, .int .i64 p.n, .bool p.ok], fun _ => rfl, by decide, fun p u hu => by
  simp at hu
  rcases hu with rfl | rfl | rfl | rfl <;> rfl⟩
def pcOf (s : ByteArray) (j : Nat) : Int × Int × Bool := ((j : Int), (((Utf8.decode s j).1 : Nat) : Int), decide (runeW s j ≠ 0))
def Pc.say (p : Pc) : Int × Int × Bool := (p.at_, p.r, p.ok)
end Gl
theorem info_pc : (Tryz.prog.info? 151).map (fun i => (i.zero, i.size, i.bytes)) = some (some (.agg #[.int .i64 0, .int .i32 0, .int .i64 0, .bool false]), 4, 32) := by kernel_rfl
theorem lit_pc (w : World) (p : Pc) : SlAt pcE (w.alloc (.cells #[.int .i64 p.at_, .int .i32 p.r, .int .i64 p.n, .bool p.ok] 151)) (.slice (some ⟨w.heap.size, 0, none⟩) 1 1) [p] := SlAt.lit (E := pcE) [p] _ rfl (by show 1 ≤ maxLen; decide)
set_option maxRecDepth 100000 in
set_option maxHeartbeats 4000000 in
theorem rpieces_any {s : ByteArray} (hs : s.size ≤ 1000000) (w : World) : Calls Tryz.prog 99 #[.string s] w fun e w' => ∃ v, e = .returned v ∧ ∃ L, w'.ownsRow w.heap.size 151 4 v L.length (pcE.flat L) ∧ L.map Pc.say = (pieces s 0).map (pcOf s) ∧ Kept (fun _ => False) w w' := by
  have hcl := countR_le s
  go_enter Tryz.func99, Tryz.ntmps99
  go_wp2_with fail
  go_loopw [3, 4] (fun lv iv wr => ∃ (i : Nat) (L : List Pc), iv = .int .i64 i ∧ i ≤ s.size ∧ wr.ownsRow w.heap.size 151 4 lv L.length (pcE.flat L) ∧ L.map Pc.say ++ (pieces s i).map (pcOf s) = (pieces s 0).map (pcOf s) ∧ Kept (fun _ => False) w wr) (fun _ iv _ => s.size - (intOf iv).toNat)
  case atStart => exact ⟨0, [], rfl, Nat.zero_le _, World.ownsRow_nil _ _ _ _, rfl, Kept.refl _ _⟩
  case round =>
    obtain ⟨i, L, rfl, hi, ho, hp, hk⟩ := hrel
    have HP := Lib.hid hp
    have HO := Lib.hid ho
    have KW := Lib.hid hk
    have hi0 : (0 : Int) ≤ i := by omega
    have hLl : L.length ≤ 1000000 := by
      have h1 := congrArg List.length hp
      rw [List.length_append, List.length_map, List.length_map, List.length_map] at h1
      unfold countR at hcl
      omega
    have HLL := Lib.hid hLl
    clear hp ho hk hLl
    by_cases hlt : i < s.size
    case neg =>
      have hltI : ¬ (i : Int) < s.size := by omega
      have HE := Lib.hid (pieces_end hlt)
      clear hlt
      go_wp2_with fail
      go_ret
      exact ⟨_, rfl, L, HO.out, by have := HP.out; rw [HE.out, List.map_nil, List.append_nil] at this; exact this, KW.out⟩
    case pos =>
      have hltI : (i : Int) < s.size := by omega
      have hin := stepW_in hlt
      have hsp := stepW_pos s i
      have HN := Lib.hid (pieces_next hlt)
      have HD := Lib.hid (fun w' => rdecode_any hs hlt w')
      obtain ⟨st, hst⟩ : ∃ n, stepW s i = n := ⟨_, rfl⟩
      obtain ⟨b, hb⟩ : ∃ b, decide (runeW s i ≠ 0) = b := ⟨_, rfl⟩
      obtain ⟨d, hd⟩ : ∃ d, (Utf8.decode s i).1 = d := ⟨_, rfl⟩
      obtain ⟨m, hm⟩ : ∃ m, i + st = m := ⟨_, rfl⟩
      have hw : IntKind.i64.wrap ((i : Int) + (st : Int)) = (m : Int) := by rw [IntKind.wrap_i64]; omega
      have PO := Lib.hid (show pcOf s i = ((i : Int), (d : Int), b) by unfold pcOf; rw [hb, hd])
      rw [hst] at hin hsp
      rw [hst] at HD HN
      rw [hb, hd] at HD
      have HM := Lib.hid hm
      have HIN := Lib.hid hin
      have HSP := Lib.hid hsp
      clear hb hst hm hin hsp hcl hd
      go_upto_region 5 with (go_at_call 115; refine (HD.out _).mono ?_; rintro e w1 ⟨rfl, hk1⟩)
      have LD := Lib.hid (lit_pc w1 ⟨i, d, st, b⟩)
      have k2 : Kept (fun _ => False) w1 (w1.alloc (.cells #[.int .i64 i, .int .i32 d, .int .i64 st, .bool b] 151)) := (Kept.refl _ _).alloc _
      have O2 := Lib.hid (owns_keep (owns_keep HO.out hk1 (fun _ _ h => h)) k2 (fun _ _ h => h))
      have K2 := Lib.hid ((KW.out.trans hk1 (fun _ _ h => h)).trans k2 (fun _ _ h => h))
      clear hk1 k2
      go_wp2_with (at_builtin; refine wpList_append_row pcE rfl (.tmp 19) (.tmp 25) 148 rfl w.heap.size 151 _ 32 Tryz.underlying148 info_pc rfl rfl rfl O2.out LD.out (by have := HLL.out; show L.length + 1 ≤ maxLen; unfold maxLen; omega) (by have := HLL.out; show (L.length + 1) * 32 ≤ 140737488355328; omega) K2.out.size ?_; intro v3 w3 ho3 hk3)
      go_roundw
      case rel =>
        refine ⟨m, L ++ [(⟨i, d, st, b⟩ : Pc)], rfl, by have := HIN.out; have := HM.out; omega, by exact ho3, ?_, K2.out.over hk3 (fun x hx => owns_new O2.out x hx)⟩
        have h1 := HP.out
        rw [HN.out, List.map_cons, PO.out, HM.out] at h1
        rw [List.map_append, List.append_assoc]
        exact h1
      case measure => have := HM.out; have := HSP.out; simp [intOf]; omega
theorem bad_step {s : ByteArray} {L : List Pc} {P : List Nat} (h : L.map Pc.say = P.map (pcOf s)) : (L.find? fun p => !p.ok).map (·.at_) = (P.find? fun j => decide (runeW s j = 0)).map (fun j => (j : Int)) := by
  induction P generalizing L with
  | nil =>
    obtain rfl : L = [] := by simpa using h
    rfl
  | cons j P ih =>
    cases L with
    | nil => simp at h
    | cons p L =>
      rw [List.map_cons, List.map_cons] at h
      injection h with h1 h2
      have e1 : p.at_ = (pcOf s j).1 := congrArg Prod.fst h1
      have e2 : p.ok = (pcOf s j).2.2 := congrArg (fun x => x.2.2) h1
      unfold pcOf at e1 e2
      simp only at e1 e2
      by_cases hz : runeW s j = 0
      · have e3 : p.ok = false := by rw [e2]; exact decide_eq_false (fun h => h hz)
        rw [List.find?_cons_of_pos (by simp [e3]), List.find?_cons_of_pos (by simpa using hz)]
        simp [e1]
      · have e3 : p.ok = true := by rw [e2]; exact decide_eq_true hz
        rw [List.find?_cons_of_neg (by simp [e3]), List.find?_cons_of_neg (by simpa using hz)]
        exact ih h2
/-- where the first bad one is -/
def badL (L : List Pc) : Int := match L.find? (fun p => !p.ok) with
  | some p => p.at_
  | none => -1
theorem badL_eq {s : ByteArray} {L : List Pc} (h : L.map Pc.say = (pieces s 0).map (pcOf s)) : badL L = badFrom s 0 := by
  have h1 := bad_step h
  unfold badL badFrom
  cases h2 : L.find? fun p => !p.ok with
  | none =>
    rw [h2] at h1
    cases h3 : (pieces s 0).find? fun j => decide (runeW s j = 0) with
    | none => rfl
    | some j => rw [h3] at h1; cases h1
  | some p =>
    rw [h2] at h1
    cases h3 : (pieces s 0).find? fun j => decide (runeW s j = 0) with
    | none => rw [h3] at h1; cases h1
    | some j =>
      rw [h3] at h1
      have : p.at_ = j := by simpa using h1
      exact this
set_option maxRecDepth 100000 in
set_option maxHeartbeats 2000000 in
theorem rbadAt_any {s : ByteArray} (hs : s.size ≤ 1000000) (w : World) : Calls Tryz.prog 98 #[.string s] w fun e w' => e = .returned (.int .i64 (badFrom s 0)) ∧ Kept (fun _ => False) w w' := by
  have HPC := Lib.hid (rpieces_any hs w)
  have hcl := countR_le s
  unfold countR at hcl
  go_enter Tryz.func98, Tryz.ntmps98
  go_upto_region 2 with (go_at_call 99; refine HPC.out.mono ?_; rintro e w1 ⟨v, rfl, L, ho, hp, hk⟩)
  have hLl : L.length ≤ 1000000 := by
    have h1 := congrArg List.length hp
    rw [List.length_map, List.length_map] at h1
    omega
  have BL := Lib.hid (badL_eq hp)
  obtain ⟨a, c, rfl⟩ := owns_sl ho
  have HO := Lib.hid ho
  have KW := Lib.hid hk
  clear hp ho hk hcl HPC hs
  generalize hm : L.length = m at *
  have HM := Lib.hid hm
  clear hm
  go_wp2_with fail
  go_loopw [4] (fun iv wr => ∃ k : Nat, iv = .int .i64 k ∧ k ≤ m ∧ badL (L.drop k) = badL L ∧ wr = w1) (fun iv _ => m - (intOf iv).toNat)
  case atStart => exact ⟨0, rfl, Nat.zero_le _, rfl, rfl⟩
  case round =>
    obtain ⟨k, rfl, hk, hb, rfl⟩ := hrel
    have hk0 : (0 : Int) ≤ k := by omega
    have HB := Lib.hid hb
    clear hb
    by_cases hlt : k < m
    case neg =>
      have hltI : ¬ (k : Int) < m := by omega
      have ANS := Lib.hid (show badFrom s 0 = -1 by rw [← BL.out, ← HB.out, List.drop_eq_nil_of_le (by rw [HM.out]; omega)]; rfl)
      go_wp2_with fail
      go_ret
      exact ⟨by rw [ANS.out]; rfl, KW.out⟩
    case pos =>
      have hltI : (k : Int) < m := by omega
      obtain ⟨_, ⟨_, hno⟩ | ⟨g, cap, hv, _, hO⟩⟩ := own_of (E := pcE) HO.out
      · have h1 := HM.out
        rw [hno] at h1; simp at h1; omega
      injection hv with e1 _ e2
      subst e1 e2
      have hkl : k < L.length := by rw [HM.out]; exact hlt
      obtain ⟨x, hx⟩ : ∃ x, L[k]? = some x := ⟨_, List.getElem?_eq_getElem hkl⟩
      have hd : L.drop k = x :: L.drop (k + 1) := by
        rw [List.drop_eq_getElem_cons hkl]
        congr 1
        rw [List.getElem?_eq_getElem hkl] at hx
        injection hx
      have c0 : wr.cell? ⟨g, k * 4 + 0, none⟩ = some (.int .i64 x.at_) := hO.cell hx (j := 0) rfl
      have c3 : wr.cell? ⟨g, k * 4 + 3, none⟩ = some (.bool x.ok) := hO.cell hx (j := 3) rfl
      rw [Nat.add_zero] at c0
      obtain ⟨x0, x1, x2, xo⟩ := x
      have HDR := Lib.hid hd
      clear hd hx hO hkl
      simp only at c0 c3
      cases xo
      · have ANS := Lib.hid (show badFrom s 0 = x0 by rw [← BL.out, ← HB.out, HDR.out]; rfl)
        go_wp2_with fail
        go_ret
        exact ⟨by rw [ANS.out]; rfl, KW.out⟩
      · have HB2 := Lib.hid (show badL (L.drop (k + 1)) = badL L by rw [← HB.out, HDR.out]; rfl)
        go_wp2_with fail
        go_roundw
        case rel => exact ⟨k + 1, by go_num, by omega, HB2.out, trivial⟩
        case measure => simp [intOf] <;> omega
set_option maxRecDepth 100000 in
theorem rgood_any {s : ByteArray} (hs : s.size ≤ 1000000) (w : World) : Calls Tryz.prog 69 #[.string s] w fun e w' => e = .returned (.bool (decide (badFrom s 0 < 0))) ∧ Kept (fun _ => False) w w' := by
  have HB := Lib.hid (rbadAt_any hs w)
  clear hs
  generalize badFrom s 0 = n at *
  go_enter Tryz.func69, Tryz.ntmps69
  go_wp2_with (go_at_call 98; refine HB.out.mono ?_; rintro e w1 ⟨rfl, hk⟩)
  go_ret
  exact ⟨rfl, hk⟩
end Go.Proofs.YtlafodnaifghcaaGreat
namespace Go.Proofs.YtlafodnaifghcaaGreat.St
def sortID_ren : Go.Shelf.Ren := ⟨fun | 6 => 92 | 15 => 112 | 14 => 111 | 28 => 127 | 29 => 128 | 20 => 119 | 21 => 120 | 22 => 121 | 23 => 122 | 24 => 123 | 25 => 124 | 26 => 125 | 27 => 126 | 46 => 132 | 47 => 133 | 48 => 134 | 49 => 135 | 50 => 136 | 57 => 139 | n => n, fun | 22 => 98 | 24 => 37 | 25 => 88 | 3 => 3 | 39 => 154 | 0 => 0 | 53 => 176 | 55 => 164 | 4 => 4 | 46 => 170 | 45 => 169 | 50 => 132 | 5 => 5 | 9 => 9 | 66 => 182 | 70 => 186 | 76 => 190 | 77 => 70 | n => n, fun | n => n⟩
theorem sortID : Go.Proofs.SlLaysF0.n6 Tryz.prog sortID_ren := {
  mixed := by kernel_rfl,
  f6 := ⟨Tryz.f92.name, by decide, Tryz.func92.trans (congrArg some (by kernel_rfl))⟩,
  f14 := ⟨Tryz.f111.name, by decide, Tryz.func111.trans (congrArg some (by kernel_rfl))⟩,
  f15 := Tryz.func112.trans (congrArg some (by kernel_rfl)),
  f20 := ⟨Tryz.f119.name, by decide, Tryz.func119.trans (congrArg some (by kernel_rfl))⟩,
  f21 := ⟨Tryz.f120.name, by decide, Tryz.func120.trans (congrArg some (by kernel_rfl))⟩,
  f22 := ⟨Tryz.f121.name, by decide, Tryz.func121.trans (congrArg some (by kernel_rfl))⟩,
  f23 := ⟨Tryz.f122.name, by decide, Tryz.func122.trans (congrArg some (by kernel_rfl))⟩,
  f24 := ⟨Tryz.f123.name, by decide, Tryz.func123.trans (congrArg some (by kernel_rfl))⟩,
  f25 := ⟨Tryz.f124.name, by decide, Tryz.func124.trans (congrArg some (by kernel_rfl))⟩,
  f26 := ⟨Tryz.f125.name, by decide, Tryz.func125.trans (congrArg some (by kernel_rfl))⟩,
  f27 := ⟨Tryz.f126.name, by decide, Tryz.func126.trans (congrArg some (by kernel_rfl))⟩,
  f28 := Tryz.func127.trans (congrArg some (by kernel_rfl)),
  f29 := Tryz.func128.trans (congrArg some (by kernel_rfl)),
  f46 := ⟨Tryz.f132.name, by decide, Tryz.func132.trans (congrArg some (by kernel_rfl))⟩,
  f47 := Tryz.func133.trans (congrArg some (by kernel_rfl)),
  f48 := Tryz.func134.trans (congrArg some (by kernel_rfl)),
  f49 := ⟨Tryz.f135.name, by decide, Tryz.func135.trans (congrArg some (by kernel_rfl))⟩,
  f50 := ⟨Tryz.f136.name, by decide, Tryz.func136.trans (congrArg some (by kernel_rfl))⟩,
  f57 := ⟨Tryz.f139.name, by decide, Tryz.func139.trans (congrArg some (by kernel_rfl))⟩,
  t0 := Tryz.underlying0,
  a0 := Tryz.isAgg0,
  z0 := Tryz.sizeOf0,
  v0 := Tryz.zeroValue0,
  t3 := Tryz.underlying3,
  a3 := Tryz.isAgg3,
  z3 := Tryz.sizeOf3,
  v3 := Tryz.zeroValue3,
  t4 := Tryz.underlying4,
  a4 := Tryz.isAgg4,
  z4 := Tryz.sizeOf4,
  v4 := Tryz.zeroValue4,
  t5 := Tryz.underlying5,
  a5 := Tryz.isAgg5,
  z5 := Tryz.sizeOf5,
  v5 := Tryz.zeroValue5,
  t9 := Tryz.underlying9,
  a9 := Tryz.isAgg9,
  z9 := Tryz.sizeOf9,
  v9 := Tryz.zeroValue9,
  t22 := Tryz.underlying98,
  a22 := Tryz.isAgg98,
  z22 := Tryz.sizeOf98,
  v22 := Tryz.zeroValue98,
  t25 := Tryz.underlying88,
  a25 := Tryz.isAgg88,
  z25 := Tryz.sizeOf88,
  v25 := Tryz.zeroValue88,
  t39 := Tryz.underlying154,
  a39 := Tryz.isAgg154,
  z39 := Tryz.sizeOf154,
  v39 := Tryz.zeroValue154,
  t45 := Tryz.underlying169,
  a45 := Tryz.isAgg169,
  z45 := Tryz.sizeOf169,
  v45 := Tryz.zeroValue169,
  t46 := Tryz.underlying170,
  a46 := Tryz.isAgg170,
  z46 := Tryz.sizeOf170,
  v46 := Tryz.zeroValue170,
  t50 := Tryz.underlying132,
  a50 := Tryz.isAgg132,
  z50 := Tryz.sizeOf132,
  v50 := Tryz.zeroValue132,
  t53 := Tryz.underlying176,
  a53 := Tryz.isAgg176,
  z53 := Tryz.sizeOf176,
  v53 := Tryz.zeroValue176,
  t55 := Tryz.underlying164,
  a55 := Tryz.isAgg164,
  z55 := Tryz.sizeOf164,
  v55 := Tryz.zeroValue164,
  t66 := Tryz.underlying182,
  a66 := Tryz.isAgg182,
  z66 := Tryz.sizeOf182,
  v66 := Tryz.zeroValue182,
  t70 := Tryz.underlying186,
  a70 := Tryz.isAgg186,
  z70 := Tryz.sizeOf186,
  v70 := Tryz.zeroValue186,
  t76 := Tryz.underlying190,
  a76 := Tryz.isAgg190,
  z76 := Tryz.sizeOf190,
  v76 := Tryz.zeroValue190,
  t77 := Tryz.underlying70,
  a77 := Tryz.isAgg70,
  z77 := Tryz.sizeOf70,
  v77 := Tryz.zeroValue70 }
end Go.Proofs.YtlafodnaifghcaaGreat.St
namespace Go.Proofs.YtlafodnaifghcaaGreat
open Go.RowKit
open Go.Sort (putRowK HoldsK flatK size_flatK get_flatK grow)
section
variable {α : Type} [Inhabited α] {E : Enc α} {w : World} {t : TypeId} {g cap : Nat} {D D' : List α}
theorem flatK_get {i j : Nat} {x : α} {u : Value} (hx : D[i]? = some x) (hu : (E.enc x)[j]? = some u) : i * E.k + j < (flatK E.enc E.k D.toArray).size ∧ (flatK E.enc E.k D.toArray)[i * E.k + j]! = u := by
  have hi : i < D.length := (List.getElem?_eq_some_iff.1 hx).1
  have hj : j < E.k := by rw [← E.len x]; exact (List.getElem?_eq_some_iff.1 hu).1
  have hlt : i * E.k + j < D.toArray.size * E.k := by
    have := Nat.mul_le_mul_right E.k (show i + 1 ≤ D.length by omega)
    rw [Nat.add_mul] at this
    simp only [List.size_toArray]
    omega
  refine ⟨by rw [size_flatK]; exact hlt, ?_⟩
  rw [get_flatK _ _ _ _ hlt]
  have e1 : (i * E.k + j) / E.k = i := by rw [Nat.mul_comm, Nat.mul_add_div E.pos, Nat.div_eq_of_lt hj, Nat.add_zero]
  have e2 : (i * E.k + j) % E.k = j := by rw [Nat.mul_comm, Nat.mul_add_mod, Nat.mod_eq_of_lt hj]
  have e3 : D.toArray[i]! = x := by
    rw [getElem!_pos D.toArray i (by simpa using hi)]
    have := (List.getElem?_eq_some_iff.1 hx).2
    simpa using this
  rw [e1, e2, e3]
  have hjl := (List.getElem?_eq_some_iff.1 hu)
  rw [getElem!_pos _ j hjl.1]
  exact hjl.2
theorem OwnAt.holdsK (h : OwnAt E w t g cap D) : HoldsK E.enc E.k w g 0 D.toArray := by
  intro m hm
  rw [size_flatK] at hm
  simp only [List.size_toArray] at hm
  have e : m = m / E.k * E.k + m % E.k := by have := Nat.div_add_mod m E.k; rw [Nat.mul_comm] at this; omega
  have hi : m / E.k < D.length := Nat.div_lt_of_lt_mul (by rw [Nat.mul_comm]; exact hm)
  have hj : m % E.k < E.k := Nat.mod_lt _ E.pos
  have hx := List.getElem?_eq_getElem hi
  have hu : (E.enc D[m / E.k])[m % E.k]? = some _ := List.getElem?_eq_getElem (by rw [E.len]; exact hj)
  have h1 := h.cell hx hu
  have h2 := (flatK_get hx hu).2
  rw [← e] at h1 h2
  rw [Nat.zero_add, h2]
  exact ⟨h1, h.frozen m⟩
theorem OwnAt.sorted (h : OwnAt E w t g cap D) (hl : D'.length = D.length) (n : Nat) (os : Array Obj) :
    OwnAt E (sortWorldK E.enc E.k w g 0 n D'.toArray os) t g cap D' ∧ Kept (· = g) w (sortWorldK E.enc E.k w g 0 n D'.toArray os) := by
  obtain ⟨cs, h1, h2, h3, h4, h5⟩ := h
  have hlt := h1.lt
  refine ⟨⟨Go.Sort.putCells id 0 (flatK E.enc E.k D'.toArray) cs, ?_, ?_, by omega, h4, ?_⟩, ⟨rfl, rfl, rfl, ?_, ?_⟩⟩
  · unfold Blk at h1 ⊢
    show (w.heap.modify g (Go.Sort.onCells (Go.Sort.putCells id 0 (flatK E.enc E.k D'.toArray))) ++ os)[g]? = _
    rw [Array.getElem?_append_left (by simpa using hlt), Array.getElem?_modify, if_pos rfl, h1]
    rfl
  · simp [Go.Sort.putCells, h2]
  · intro i x hx j u hu
    obtain ⟨g1, g2⟩ := flatK_get hx hu
    have hm : i * E.k + j < cs.size := by
      rw [size_flatK] at g1
      simp only [List.size_toArray] at g1
      have := Nat.mul_le_mul_right E.k h3
      rw [← hl] at this
      omega
    simp only [Go.Sort.putCells, Array.getElem?_mapIdx, Array.getElem?_eq_getElem hm, Option.map_some]
    rw [if_pos ⟨Nat.zero_le _, by omega⟩, Nat.sub_zero, g2]
    rfl
  · simp [sortWorldK, grow, putRowK, Go.Sort.putRow, Go.Sort.mapBlock, Go.Sort.ahead]
  · intro k hk hne
    have : ¬ g = k := fun e => hne e.symm
    show (w.heap.modify g (Go.Sort.onCells (Go.Sort.putCells id 0 (flatK E.enc E.k D'.toArray))) ++ os)[k]? = _
    rw [Array.getElem?_append_left (by simpa using hk), Array.getElem?_modify, if_neg this]
end
namespace St
open Go.Sort (SWO)
theorem lt_of (x y : ID) : Go.Proofs.ltOf ID.cmp x y = decide (x.lt y) := by
  unfold Go.Proofs.ltOf
  rw [decide_eq_decide]
  exact cmp_lt
theorem swo_id : SWO (Go.Proofs.ltOf ID.cmp) where
  irrefl x := by rw [lt_of]; simpa using ID.lt_irrefl x
  trans x y z h1 h2 := by rw [lt_of] at *; simp only [decide_eq_true_eq] at *; exact ID.lt_trans h1 h2
  ntrans x y z h1 h2 := by
    rw [lt_of] at *
    simp only [decide_eq_false_iff_not] at *
    unfold ID.lt at *
    omega
theorem part_id (x y : ID) (h1 : Go.Proofs.ltOf ID.cmp x y = false) (h2 : Go.Proofs.ltOf ID.cmp y x = false) : x = y := by
  rw [lt_of] at h1 h2
  simp only [decide_eq_false_iff_not] at h1 h2
  rcases x.lt_or y with h | h | h
  · exact absurd h h1
  · exact h
  · exact absurd h h2
/-- no later one is lower -/
def Sorted (l : List ID) : Prop := l.Pairwise fun a b => ¬ b.lt a
theorem merge_id (D : List ID) : (D.mergeSort fun x y => !Go.Proofs.ltOf ID.cmp y x).Perm D ∧ Sorted (D.mergeSort fun x y => !Go.Proofs.ltOf ID.cmp y x) := by
  refine ⟨List.mergeSort_perm .., ?_⟩
  have := List.pairwise_mergeSort (le := fun x y => !Go.Proofs.ltOf ID.cmp y x) (fun a b c h1 h2 => by
    simp only [Bool.not_eq_true'] at *
    exact swo_id.ntrans c b a h2 h1) (fun a b => by
    simp only [Bool.or_eq_true, Bool.not_eq_true', lt_of, decide_eq_false_iff_not]
    by_cases h : b.lt a
    · exact .inr fun h' => ID.lt_irrefl _ (ID.lt_trans h h')
    · exact .inl h) D
  refine this.imp fun {a b} h => ?_
  simpa [lt_of] using h
theorem cmpLays_id (g n : Nat) (w : World) : CmpLays Tryz.prog 46 #[] idE.enc 2 ID.cmp g 0 n w := fun _ _ _ _ x y => compare_any x y _
theorem aggId : ∀ w, (isAgg (sortID_ren.t 24)).run Tryz.prog w = .ok true w := fun _ => by kernel_rfl
theorem sizeId : ∀ w, (Go.sizeOf (sortID_ren.t 24)).run Tryz.prog w = .ok 2 w := fun _ => by kernel_rfl
theorem sort_id {w : World} {t : TypeId} {g cap : Nat} {D : List ID} (h : OwnAt idE w t g cap D) (hb : D.length ≤ 1000000000) :
    Calls Tryz.prog 92 #[.slice (some ⟨g, 0, none⟩) D.length cap, .func (.func 46) #[] #[]] w fun e w' => e = .returned (.tuple #[]) ∧ ∃ D', D'.Perm D ∧ Sorted D' ∧ OwnAt idE w' t g cap D' ∧ Kept (· = g) w w' := by
  have eg : ∀ args w, (callFunc 46 args).run Tryz.prog w = .ok (.enter 46 args) w := enters_of Tryz.func46 (by kernel_rfl) rfl
  have hcon := AnyQ.slices_SortFunc_total sortID 2 aggId sizeId idE.enc idE.len idE.one ID.cmp swo_id 46 #[] g 0 cap D.toArray w eg (cmpLays_id g _ w) h.holdsK h.lt (by simp; omega) part_id
  refine hcon.mono ?_
  rintro e w' ⟨rfl, n, os, rfl⟩
  obtain ⟨h1, h2⟩ := merge_id D
  obtain ⟨h3, h4⟩ := h.sorted (D' := D.mergeSort fun x y => !Go.Proofs.ltOf ID.cmp y x) (by simp) n os
  exact ⟨rfl, _, h1, h2, h3, h4⟩
end St
end Go.Proofs.YtlafodnaifghcaaGreat
namespace Go.Proofs.YtlafodnaifghcaaGreat.St
open Go.RowKit

/-- without those that stand behind one alike -/
def ddStep (acc : List ID) (x : ID) : List ID := if acc.getLast? = some x then acc else acc ++ [x]
def dd (l : List ID) : List ID := l.foldl ddStep []
theorem dd_snoc (l : List ID) (x : ID) : dd (l ++ [x]) = ddStep (dd l) x := by simp [dd, List.foldl_append]
theorem dd_take (D : List ID) {j : Nat} {x : ID} (h : D[j]? = some x) : dd (D.take (j + 1)) = ddStep (dd (D.take j)) x := by rw [List.take_add_one, h]; exact dd_snoc _ _
theorem snoc_ind {P : List ID → Prop} (h0 : P []) (h1 : ∀ l x, P l → P (l ++ [x])) (l : List ID) : P l := by
  have : ∀ n (l : List ID), l.length = n → P l := fun n => by
    induction n with
    | zero => intro l hl; rw [List.length_eq_zero_iff.1 hl]; exact h0
    | succ n ih =>
      intro l hl
      have hne : l ≠ [] := by rintro rfl; simp at hl
      rw [← List.dropLast_concat_getLast hne]
      exact h1 _ _ (ih _ (by simp [hl]))
  exact this _ l rfl
theorem dd_last (l : List ID) : (dd l).getLast? = l.getLast? := by
  induction l using snoc_ind with
  | h0 => rfl
  | h1 l x ih =>
    rw [dd_snoc]
    unfold ddStep
    split
    · rename_i h; rw [h]; simp
    · simp
theorem dd_mem (l : List ID) (x : ID) : x ∈ dd l ↔ x ∈ l := by
  induction l using snoc_ind with
  | h0 => simp [dd]
  | h1 l y ih =>
    rw [dd_snoc]
    unfold ddStep
    split
    · rename_i h
      rw [ih, List.mem_append]
      constructor
      · exact .inl
      · rintro (h1 | h1)
        · exact h1
        · simp at h1; subst h1
          rw [dd_last] at h
          exact List.mem_of_getLast? h
    · rw [List.mem_append, List.mem_append, ih]
theorem dd_len (l : List ID) : (dd l).length ≤ l.length := by
  induction l using snoc_ind with
  | h0 => simp [dd]
  | h1 l y ih => rw [dd_snoc]; unfold ddStep; split <;> simp <;> omega
theorem dd_rising {l : List ID} (h : Sorted l) : Rising (dd l) := by
  induction l using snoc_ind with
  | h0 => exact List.Pairwise.nil
  | h1 l y ih =>
    have hs := List.pairwise_append.1 h
    have hr := ih hs.1
    rw [dd_snoc]
    unfold ddStep
    split
    · exact hr
    · rename_i hne
      refine List.pairwise_append.2 ⟨hr, by simp, fun a ha b hb => ?_⟩
      simp at hb
      subst hb
      have hle : ¬ b.lt a := hs.2.2 a ((dd_mem l a).1 ha) b (by simp)
      rcases a.lt_or b with h1 | h1 | h1
      · exact h1
      · subst h1
        exfalso
        -- a stands in dd l, and is not the last: the last is above it, yet not above the next
        cases hl : (dd l).getLast? with
        | none => rw [List.getLast?_eq_none_iff] at hl; rw [hl] at ha; cases ha
        | some z =>
          have hz : z ∈ dd l := List.mem_of_getLast? hl
          have hza : z ≠ a := fun e => hne (by rw [hl, e])
          have hzl : ¬ a.lt z := hs.2.2 z ((dd_mem l z).1 hz) a (by simp)
          have : ∀ {m : List ID}, Rising m → m.getLast? = some z → a ∈ m → a = z ∨ a.lt z := by
            intro m hm hmz ham
            obtain ⟨m', rfl⟩ := List.getLast?_eq_some_iff.1 hmz
            rcases List.mem_append.1 ham with h | h
            · exact .inr ((List.pairwise_append.1 hm).2.2 a h z (by simp))
            · exact .inl (by simpa using h)
          rcases this hr hl ha with e | e
          · exact hza e.symm
          · exact hzl e
      · exact absurd h1 hle
theorem last_take {D : List ID} {j : Nat} {y : ID} (h : D[j]? = some y) : (dd (D.take (j + 1))).getLast? = some y := by
  rw [dd_last, List.take_add_one, h]; simp
theorem dd_same {D : List ID} {j : Nat} {y : ID} (h1 : D[j]? = some y) (h2 : D[j + 1]? = some y) : dd (D.take (j + 1 + 1)) = dd (D.take (j + 1)) := by
  rw [dd_take D h2]; unfold ddStep; rw [if_pos (last_take h1)]
theorem dd_other {D : List ID} {j : Nat} {x y : ID} (h1 : D[j]? = some y) (h2 : D[j + 1]? = some x) (hne : x ≠ y) : dd (D.take (j + 1 + 1)) = dd (D.take (j + 1)) ++ [x] := by
  rw [dd_take D h2]; unfold ddStep; rw [if_neg]; rw [last_take h1]; exact fun e => hne (Option.some.inj e).symm
theorem eq_cases (x y : ID) : x = y ∨ (x ≠ y ∧ (x.t == y.t) = false) ∨ (x ≠ y ∧ (x.t == y.t) = true ∧ (x.s == y.s) = false) := by
  by_cases h1 : x.t = y.t
  · by_cases h2 : x.s = y.s
    · exact .inl (by rw [ID.ext_iff]; exact ⟨h1, h2⟩)
    · exact .inr (.inr ⟨fun e => h2 (by rw [e]), by simpa using h1, by simpa using h2⟩)
  · exact .inr (.inl ⟨fun e => h1 (by rw [e]), by simpa using h1⟩)

/-- what Compact keeps: k written, j looked at -/
structure CoInv (D : List ID) (k j : Nat) (X : List ID) : Prop where
  len : X.length = D.length
  low : X.take k = dd (D.take j)
  kl : k = (dd (D.take j)).length
  lt : k < j
  high : ∀ m, j ≤ m + 1 → X[m]? = D[m]?
theorem CoInv.start {D : List ID} {k : Nat} {y : ID} (h : dd (D.take (k + 1)) = D.take (k + 1)) (h1 : D[k]? = some y) (h2 : D[k + 1]? = some y) : CoInv D (k + 1) (k + 1 + 1) D := by
  have hl := (List.getElem?_eq_some_iff.1 h2).1
  have e := (dd_same h1 h2).trans h
  exact ⟨rfl, e.symm, by rw [e, List.length_take]; omega, by omega, fun _ _ => rfl⟩
theorem CoInv.skip {D X : List ID} {k j : Nat} {y : ID} (h : CoInv D k (j + 1) X) (h1 : D[j]? = some y) (h2 : D[j + 1]? = some y) : CoInv D k (j + 1 + 1) X := by
  have e := dd_same h1 h2
  exact ⟨h.len, by rw [e]; exact h.low, by rw [e]; exact h.kl, by have := h.lt; omega, fun m hm => h.high m (by omega)⟩
theorem CoInv.keep {D X : List ID} {k j : Nat} {x y : ID} (h : CoInv D k (j + 1) X) (h1 : D[j]? = some y) (h2 : D[j + 1]? = some x) (hne : x ≠ y) : CoInv D (k + 1) (j + 1 + 1) (X.set k x) := by
  have hj : j + 1 < D.length := (List.getElem?_eq_some_iff.1 h2).1
  have hl := h.len
  have hk := h.lt
  have e := dd_other h1 h2 hne
  refine ⟨by simpa using hl, ?_, by rw [e, List.length_append, ← h.kl]; rfl, by omega, fun m hm => ?_⟩
  · rw [e, ← h.low, List.take_add_one, List.take_set_of_le (Nat.le_refl _), List.getElem?_set_self (by omega)]
    rfl
  · rw [List.getElem?_set_ne (by omega)]
    exact h.high m (by omega)
theorem CoInv.done {D X : List ID} {k : Nat} (h : CoInv D k D.length X) : X.take k = dd D ∧ k = (dd D).length := by
  have h1 := h.low
  have h2 := h.kl
  rw [List.take_length] at h1 h2
  exact ⟨h1, h2⟩
theorem dd_short {D : List ID} (h : D.length < 2) : dd D = D := by
  match D, h with
  | [], _ => rfl
  | [x], _ => rfl
  | _ :: _ :: _, h => simp at h; omega

set_option maxRecDepth 100000 in
set_option maxHeartbeats 2000000 in
theorem compact_short {w : World} {v : Value} {n : Nat} {a : Option Addr} {c : Nat} (hv : v = .slice a n c) (hn : n < 2) : Calls Tryz.prog 93 #[v] w fun e w' => e = .returned v ∧ w = w' := by
  subst hv
  go_enter Tryz.func93, Tryz.ntmps93
  go_wp2_with fail
  go_ret
  exact ⟨rfl, rfl⟩
set_option maxRecDepth 100000 in
set_option maxHeartbeats 2000000 in
theorem compact_id {w : World} {t : TypeId} {g cap : Nat} {D : List ID} (h : OwnAt idE w t g cap D) (hb : D.length ≤ 1000000000) (h2 : 2 ≤ D.length) :
    Calls Tryz.prog 93 #[.slice (some ⟨g, 0, none⟩) D.length cap] w fun e w' => e = .returned (.slice (some ⟨g, 0, none⟩) (dd D).length cap) ∧ OwnAt idE w' t g cap (dd D) ∧ Kept (· = g) w w' := by
  have hle := h.le
  have hl2 : ¬ (D.length : Int) < 2 := by omega
  go_enter Tryz.func93, Tryz.ntmps93
  go_wp2_with fail
  go_loopw [3] (fun kv wr => ∃ (k q : Nat), kv = .int .i64 ((k : Int) + 1) ∧ k + 1 ≤ D.length ∧ dd (D.take (k + 1)) = D.take (k + 1) ∧ wr = w.drewN q) (fun kv _ => D.length - (intOf kv).toNat)
  case atStart => exact ⟨0, 0, rfl, by omega, dd_short (by rw [List.length_take]; omega), rfl⟩
  case round =>
    obtain ⟨k, q, rfl, hk, hdd, rfl⟩ := hrel
    have DDk := Lib.hid hdd
    clear hdd
    by_cases hlt : k + 1 < D.length
    · obtain ⟨y, hy⟩ := get_of_lt (show k < D.length by omega)
      obtain ⟨x, hx⟩ := get_of_lt hlt
      obtain ⟨a0, a1⟩ := OwnAt.id h hy
      obtain ⟨b0, b1⟩ := OwnAt.id h hx
      have Y0 := Lib.hid hy
      have X0 := Lib.hid hx
      have hk0 : (0 : Int) ≤ k := by omega
      have hk1 : (k : Int) + 1 < D.length := by omega
      have hk2 : (k : Int) < D.length := by omega
      clear hy hx
      rcases eq_cases x y with rfl | ⟨hne, e1⟩ | ⟨hne, e1, e2⟩
      · go_wp2_with fail
        go_quiet (fail)
        go_wp2_with fail
        have hg2 : (Kept (· = g) w (w.drewN (q + nq))) := (Kept.refl _ _).drewN _
        have h2 : OwnAt idE (w.drewN (q + nq)) t g cap D := h.keep ((Kept.refl (fun _ => False) w).drewN _) (fun h => h)
        generalize w.drewN (q + nq) = wz at *
        clear a0 a1 b0 b1
        go_loopw [3, 5] (fun kv iv wr => ∃ (kk m : Nat) (X : List ID), kv = .int .i64 kk ∧ iv = .int .i64 ((m : Int) + 1) ∧ k + 1 + m + 1 ≤ D.length ∧ CoInv D kk (k + 1 + m + 1) X ∧ OwnAt idE wr t g cap X ∧ Kept (· = g) w wr) (fun _ iv _ => D.length - (intOf iv).toNat)
        case atStart => exact ⟨k + 1, 0, D, by go_num, rfl, by omega, CoInv.start DDk.out Y0.out X0.out, h2, hg2⟩
        case round =>
          clear h2 hg2 X0 Y0
          obtain ⟨kk, m, X, rfl, rfl, hm, hI, hO, hkp⟩ := hrel
          have hkj := hI.lt
          have hXl := hI.len
          have II := Lib.hid hI
          have hk20 : (0 : Int) ≤ kk := by omega
          have hm0 : (0 : Int) ≤ m := by omega
          by_cases hml : k + 1 + m + 1 < D.length
          · obtain ⟨y, hy⟩ := get_of_lt (show k + 1 + m < D.length by omega)
            obtain ⟨z, hz⟩ := get_of_lt hml
            obtain ⟨a0, a1⟩ := OwnAt.id hO ((hI.high (k + 1 + m) (by omega)).trans hy)
            obtain ⟨b0, b1⟩ := OwnAt.id hO ((hI.high (k + 1 + m + 1) (by omega)).trans hz)
            rw [show (k + 1 + m) * 2 = (k + 1) * 2 + m * 2 by omega] at a0 a1
            rw [show (k + 1 + m + 1) * 2 = (k + 1) * 2 + (m + 1) * 2 by omega] at b0 b1
            have Y0 := Lib.hid hy
            have Z0 := Lib.hid hz
            have hm1 : (m : Int) + 1 < ((D.length - (k + 1) : Nat) : Int) := by omega
            have hm2 : (m : Int) < ((D.length - (k + 1) : Nat) : Int) := by omega
            have hkl : (kk : Int) < D.length := by omega
            clear hy hz hI
            rcases eq_cases z y with rfl | ⟨hne, e1⟩ | ⟨hne, e1, e2⟩
            · go_wp2_with fail
              go_quiet (fail)
              go_wp2_with fail
              go_roundw
              case rel => exact ⟨kk, m + 1, X, rfl, by go_num, by omega, II.out.skip Y0.out Z0.out, hO.keep ((Kept.refl (fun _ => False) _).drewN _) (fun h => h), hkp.drewN _⟩
              case measure => simp [intOf]; omega
            all_goals
              have NE := Lib.hid hne
              clear hne
              obtain ⟨u, hu⟩ := get_of_lt (show kk < X.length by omega)
              obtain ⟨c0, c1⟩ := OwnAt.id hO hu
              have f0 := hO.frozen (kk * 2)
              have f1 := hO.frozen (kk * 2 + 1)
              have HO := Lib.hid hO
              have XL := Lib.hid hXl
              clear hu hO hXl
              go_wp2_with fail
              go_quiet (fail)
              go_wp2_with fail
              go_roundw
              case rel => exact ⟨kk + 1, m + 1, X.set kk z, by go_num, by go_num, by omega, II.out.keep Y0.out Z0.out NE.out, OwnAt.set2 (HO.out.keep ((Kept.refl (fun _ => False) _).drewN _) (fun h => h)) (by have := XL.out; omega) rfl rfl, ((hkp.drewN _).setCell (fun _ => rfl) _).setCell (fun _ => rfl) _⟩
              case measure => simp [intOf]; omega
          · have hj : k + 1 + m + 1 = D.length := by omega
            have hI2 := hI
            rw [hj] at hI2
            obtain ⟨e1, e2⟩ := hI2.done
            obtain ⟨w3, hcl, hO3, hk3⟩ := run_clear_own (P := Tryz.prog) hO 0 Tryz.underlying98 zero_id rfl (fun u hu => by rcases (show u = .int .i64 0 by simpa [Value.cells] using hu) with rfl; rfl) (i := kk) (n := D.length - kk) (c := cap - kk) (by omega)
            have hcl2 : (Builtin.clear_ #[98] 0 #[.slice (some ⟨g, kk * 2, none⟩) (D.length - kk) (cap - kk)]).run Tryz.prog wr = .ok (.tuple #[]) w3 := hcl
            have hil : (kk : Int) < D.length := by omega
            have hic : kk < cap := by omega
            have hm1 : ¬ (m : Int) + 1 < ((D.length - (k + 1) : Nat) : Int) := by omega
            rw [e1] at hO3
            have E2 := Lib.hid e2
            have O3 := Lib.hid hO3
            have K3 := Lib.hid (hkp.trans hk3 (fun _ _ h => h))
            have XL := Lib.hid hXl
            clear e1 e2 hI hI2 hO3 hk3 hkp hcl hO hml hXl hj
            go_wp2_with fail
            go_ret
            exact ⟨by rw [← E2.out]; rfl, O3.out, K3.out⟩
      all_goals
        have NE := Lib.hid hne
        clear hne
        go_wp2_with fail
        go_quiet (fail)
        go_wp2_with fail
        go_roundw
        case rel => exact ⟨k + 1, _, by go_num, by omega, by rw [dd_other Y0.out X0.out NE.out, DDk.out, List.take_add_one (i := k + 1), X0.out]; rfl, rfl⟩
        case measure => simp [intOf]; omega
    · have hge : D.length ≤ k + 1 := by omega
      have hd := DDk.out
      rw [List.take_of_length_le hge] at hd
      have E := Lib.hid hd
      clear hd
      go_wp2_with fail
      go_ret
      rw [E.out]
      exact ⟨rfl, h.keep ((Kept.refl (fun _ => False) w).drewN _) (fun h => h), (Kept.refl _ _).drewN _⟩
end Go.Proofs.YtlafodnaifghcaaGreat.St
namespace Go.Proofs.YtlafodnaifghcaaGreat.St
open Go.RowKit

theorem eqIn_id (x y : ID) (w : World) : (Op.equal 37 (idV x) (idV y)).run Tryz.prog w = .ok (decide (x = y)) w := by
  have h : decide (x = y) = (x.t == y.t && x.s == y.s) := by
    rw [Bool.eq_iff_iff]
    simp [ID.ext_iff]
  rw [h]
  obtain ⟨a, b⟩ := x
  obtain ⟨c, d⟩ := y
  show (Op.equalIn 10000 37 (.agg #[.int .i64 a, .int .i64 b]) (.agg #[.int .i64 c, .int .i64 d])).run Tryz.prog w = _
  go_simp
  by_cases h1 : a = c
  · by_cases h2 : b = d
    · simp [h1, h2]
    · simp [h1, h2]
  · simp [h1]
def idK : KeyE Tryz.prog 37 ID where
  enc := idV
  check := fun _ _ _ => by kernel_rfl
  now := fun k x d hd => .inl (by
    have e : Tryz.prog.underlying 37 = some d := hd
    rw [Tryz.underlying37] at e
    cases e
    rfl)
  ask := eqIn_id
  bits := fun k => by simp [idV, Instr.sameBits]
  und := ⟨_, Tryz.underlying37⟩
def intK : KeyE Tryz.prog 3 Int where
  enc := Value.int .i64
  check := fun _ _ _ => by kernel_rfl
  now := fun k x d hd => .inr (by
    have e : Tryz.prog.underlying 3 = some d := hd
    rw [Tryz.underlying3] at e
    cases e
    simp only [Instr.sameNow, if_pos]
    rw [show (k == x) = decide (k = x) by rw [Bool.eq_iff_iff]; simp])
  ask := fun k x w => by
    have h : decide (k = x) = (k == x) := by rw [Bool.eq_iff_iff]; simp
    rw [h]
    exact run_equalIn_int w 9999 3 .i64 .i64 k x Tryz.underlying3
  bits := fun k => by simp [Instr.sameBits]
  und := ⟨_, Tryz.underlying3⟩
end Go.Proofs.YtlafodnaifghcaaGreat.St
namespace Go.Proofs.YtlafodnaifghcaaGreat.St
open Go.RowKit

/-- the map from the identifier that would follow a run to its place -/
def GrowsOk (kvs : List (ID × Value)) (out : List Run) : Prop := KeysOk kvs ∧ ∀ x, getK kvs x = (growAt out x).map fun k : Nat => Value.int .i64 (k : Int)
theorem growAt_next {out : List Run} (hn : (out.map Run.next).Nodup) {k : Nat} {r : Run} (hk : out[k]? = some r) : growAt out r.next = some k := growAt_of hn hk rfl
theorem growAt_iff {out : List Run} (hn : (out.map Run.next).Nodup) {x : ID} {k : Nat} : growAt out x = some k ↔ ∃ r, out[k]? = some r ∧ r.next = x :=
  ⟨growAt_some, fun ⟨_, h1, h2⟩ => growAt_of hn h1 h2⟩
theorem opt_ext {α : Type} {a b : Option α} (h : ∀ k, a = some k ↔ b = some k) : a = b := by
  cases a with
  | none => cases b with
    | none => rfl
    | some y => exact absurd ((h y).2 rfl) (by simp)
  | some x => exact ((h x).1 rfl).symm
theorem modify_get {out : List Run} {k i : Nat} {r : Run} (hk : out[k]? = some r) : (out.modify k Run.up)[i]? = if k = i then some r.up else out[i]? := by
  rw [List.getElem?_modify]
  by_cases h : k = i
  · subst h; simp [hk]
  · simp [h]
/-- a run that grows -/
theorem GrowsOk.grow {kvs : List (ID × Value)} {out : List Run} {P Q : ID → Prop} {x : ID} {k : Nat} (h : GrowsOk kvs out) (ho : PackOk out P) (ho2 : PackOk (packStep out x) Q) (hg : growAt out x = some k) :
    GrowsOk (putK (delK kvs x) ⟨x.t + 1, x.s⟩ (.int .i64 (k : Int))) (packStep out x) := by
  obtain ⟨h1, h2⟩ := h
  refine ⟨(h1.del x).put _ _, fun y => ?_⟩
  rw [getK_put, getK_del h1, h2]
  have e : packStep out x = out.modify k Run.up := by unfold packStep; rw [hg]
  obtain ⟨r, hk, hr⟩ := growAt_some hg
  have hn2 := ho2.nodup
  rw [e] at hn2 ⊢
  have hup : r.up.next = ⟨x.t + 1, x.s⟩ := by
    have e1 := congrArg ID.t hr
    have e2 := congrArg ID.s hr
    simp only [Run.next] at e1 e2
    rw [ID.ext_iff]
    simp only [Run.next, Run.up]
    exact ⟨by omega, e2⟩
  have hk2 : (out.modify k Run.up)[k]? = some r.up := by rw [modify_get hk, if_pos rfl]
  by_cases hy : (⟨x.t + 1, x.s⟩ : ID) = y
  · rw [if_pos hy, growAt_of hn2 hk2 (hup.trans hy)]; rfl
  · rw [if_neg hy]
    have key : growAt (out.modify k Run.up) y = if x = y then none else growAt out y := by
      refine opt_ext fun m => ?_
      rw [growAt_iff hn2]
      by_cases hxy : x = y
      · rw [if_pos hxy]
        constructor
        · rintro ⟨q, hq, hqn⟩
          rw [modify_get hk] at hq
          split at hq
          · cases hq; exact absurd (hup.symm.trans hqn) hy
          · rename_i hkm
            have h3 : growAt out x = some m := growAt_of ho.nodup hq (hqn.trans hxy.symm)
            rw [hg] at h3
            exact absurd (Option.some.inj h3) hkm
        · intro h3; cases h3
      · rw [if_neg hxy, growAt_iff ho.nodup]
        constructor
        · rintro ⟨q, hq, hqn⟩
          rw [modify_get hk] at hq
          split at hq
          · cases hq; exact absurd (hup.symm.trans hqn) hy
          · exact ⟨q, hq, hqn⟩
        · rintro ⟨q, hq, hqn⟩
          refine ⟨q, ?_, hqn⟩
          rw [modify_get hk, if_neg]
          · exact hq
          · rintro rfl
            rw [hk] at hq
            cases hq
            exact hxy (hr.symm.trans hqn)
    rw [key]
    by_cases hxy : x = y
    · rw [if_pos hxy, if_pos hxy]; rfl
    · rw [if_neg hxy, if_neg hxy]
/-- a new run -/
theorem GrowsOk.new {kvs : List (ID × Value)} {out : List Run} {P Q : ID → Prop} {x : ID} (h : GrowsOk kvs out) (ho : PackOk out P) (ho2 : PackOk (packStep out x) Q) (hg : growAt out x = none) :
    GrowsOk (putK kvs ⟨x.t + 1, x.s⟩ (.int .i64 (out.length : Int))) (packStep out x) := by
  obtain ⟨h1, h2⟩ := h
  refine ⟨h1.put _ _, fun y => ?_⟩
  rw [getK_put, h2]
  have e : packStep out x = out ++ [⟨x, 1⟩] := by unfold packStep; rw [hg]
  have hn2 := ho2.nodup
  rw [e] at hn2 ⊢
  have hlast : (out ++ [⟨x, 1⟩])[out.length]? = some ⟨x, 1⟩ := by simp
  have hnext : Run.next ⟨x, 1⟩ = ⟨x.t + 1, x.s⟩ := rfl
  by_cases hy : (⟨x.t + 1, x.s⟩ : ID) = y
  · rw [if_pos hy, growAt_of hn2 hlast (hnext.trans hy)]; rfl
  · rw [if_neg hy]
    congr 1
    refine opt_ext fun m => ?_
    rw [growAt_iff hn2, growAt_iff ho.nodup]
    constructor
    · rintro ⟨q, hq, hqn⟩
      exact ⟨q, by rw [List.getElem?_append_left (List.getElem?_eq_some_iff.1 hq).1]; exact hq, hqn⟩
    · rintro ⟨q, hq, hqn⟩
      by_cases hm : m < out.length
      · rw [List.getElem?_append_left hm] at hq; exact ⟨q, hq, hqn⟩
      · have : m = out.length := by
          have := (List.getElem?_eq_some_iff.1 hq).1
          simp at this; omega
        subst this
        rw [hlast] at hq
        cases hq
        exact absurd (hnext.symm.trans hqn) hy
theorem packOk_take {S : List ID} (hS : Rising S) : ∀ n, n ≤ S.length → PackOk (packL (S.take n)) (fun y => y ∈ S.take n) := by
  intro n
  induction n with
  | zero => intro _; exact ⟨by simp [packL], by simp [packL], by simp [packL]⟩
  | succ n ih =>
    intro hn
    obtain ⟨x, hx⟩ := get_of_lt (show n < S.length by omega)
    have e : S.take (n + 1) = S.take n ++ [x] := by rw [List.take_add_one, hx]; rfl
    have e2 : packL (S.take (n + 1)) = packStep (packL (S.take n)) x := by rw [e]; simp [packL, List.foldl_append]
    rw [e2]
    refine packStep_ok (ih (by omega)) (fun y hy => ?_) (fun y hy => by rw [e]; exact List.mem_append_left _ hy) (by rw [e]; simp)
    rintro rfl
    rw [Rising, ← List.take_append_drop n S] at hS
    have h1 := (List.pairwise_append.1 hS).2.2 y hy y (by rw [List.drop_eq_getElem_cons (by omega)]; rw [List.getElem?_eq_getElem (by omega)] at hx; rw [Option.some.inj hx]; simp)
    exact ID.lt_irrefl _ h1
theorem packL_take_succ {S : List ID} {n : Nat} {x : ID} (hx : S[n]? = some x) : packL (S.take (n + 1)) = packStep (packL (S.take n)) x := by
  rw [List.take_add_one, hx]; simp [packL, List.foldl_append]
theorem packL_len (S : List ID) : (packL S).length ≤ S.length := by
  have : ∀ (l : List ID) (out : List Run), (l.foldl packStep out).length ≤ out.length + l.length := by
    intro l
    induction l with
    | nil => intro out; simp
    | cons x l ih =>
      intro out
      have h1 := ih (packStep out x)
      have h2 := packStep_len out x
      simp only [List.foldl_cons, List.length_cons]
      omega
  have h := this S []
  rw [List.length_nil, Nat.zero_add] at h
  exact h
theorem packL_ids (S : List ID) : ∀ r ∈ packL S, r.id ∈ S := by
  induction S using snoc_ind with
  | h0 => simp [packL]
  | h1 l x ih =>
    have e : packL (l ++ [x]) = packStep (packL l) x := by simp [packL, List.foldl_append]
    rw [e]
    unfold packStep
    cases hg : growAt (packL l) x with
    | none =>
      intro r hr
      rcases List.mem_append.1 hr with hr | hr
      · exact List.mem_append_left _ (ih r hr)
      · simp only [List.mem_cons, List.not_mem_nil, or_false] at hr
        subst hr
        exact List.mem_append_right _ (by simp)
    | some k =>
      obtain ⟨q, hk, hq⟩ := growAt_some hg
      intro r hr
      obtain ⟨i, hi⟩ := List.getElem?_of_mem hr
      have hi2 : ((packL l).modify k Run.up)[i]? = some r := hi
      rw [modify_get hk] at hi2
      split at hi2
      · cases hi2
        exact List.mem_append_left _ (ih q (List.mem_of_getElem? hk))
      · exact List.mem_append_left _ (ih r (List.mem_of_getElem? hi2))
end Go.Proofs.YtlafodnaifghcaaGreat.St
