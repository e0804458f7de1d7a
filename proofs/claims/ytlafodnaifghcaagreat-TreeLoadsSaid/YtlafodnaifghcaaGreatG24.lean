/- hearsayref1: Decode, Pieces (with the runes), BadAt, Good and Count. Contracts of the library at this translation: the numbers. slices.SortFunc of identifiers, on a row of the call's own. -/
import Derived.Test.YtlafodnaifghcaaGreatG23
import Derived.Test.YtlafodnaifghcaaGreatG5
import Derived.Deep.DeepCutAuto
import Derived.Test.YtlafodnaifghcaaGreatChecked
import Derived.Shelf.SlSortCmp.NoneTotal
import Derived.Test.YtlafodnaifghcaaGreatG14
namespace Go.Proofs.YtlafodnaifghcaaGreat
open Go.RowKit Go.Proofs.YtlafodnaifghcaaGreat.Gl
set_option maxRecDepth 100000 in
set_option maxHeartbeats 2000000 in
theorem rdecode_any {s : ByteArray} {i : Nat} (hs : s.size ≤ 1000000) (hi : i < s.size) (w : World) : Calls Tryz.prog 115 #[.string s, .int .i64 i] w fun e w' => e = .returned (.tuple #[.int .i32 ((Utf8.decode s i).1 : Nat), .int .i64 (stepW s i), .bool (decide (runeW s i ≠ 0))]) ∧ Kept (fun _ => False) w w' := by
  have hiI : (i : Int) < s.size := by omega
  have hi0 : (0 : Int) ≤ i := by omega
  have HB := Lib.hid (begins_any hs hi w)
  clear hs
  by_cases h0 : runeW s i = 0
  · rw [h0] at HB
    have A3 := Lib.hid ((decode_runeW s i).2 h0)
    have A1 := Lib.hid (show stepW s i = 1 from if_pos h0)
    have A2 := Lib.hid (show decide (runeW s i ≠ 0) = false from decide_eq_false (fun h => h h0))
    clear h0
    go_enter Tryz.func115, Tryz.ntmps115
    go_wp2_with (go_at_call 130; refine HB.out.mono ?_; rintro e w' ⟨⟨r, rfl, _⟩, q, rfl⟩)
    go_ret3
    exact ⟨by rw [A1.out, A2.out, A3.out]; rfl, (Kept.refl _ _).drewN _⟩
  · obtain ⟨n, hn⟩ : ∃ n, runeW s i = n := ⟨_, rfl⟩
    rw [hn] at HB
    have A1 := Lib.hid (show stepW s i = n by unfold stepW; rw [if_neg h0, hn])
    have A2 := Lib.hid (show decide (runeW s i ≠ 0) = true from decide_eq_true h0)
    have hnb : ((n : Int) == 0) = false := beq_eq_false_iff_ne.2 (by omega)
    have A3 := Lib.hid (show n ≠ 0 by omega)
    obtain ⟨d, hd⟩ : ∃ d, (Utf8.decode s i).1 = d := ⟨_, rfl⟩
    rw [hd] at HB ⊢
    clear h0 hn hd
    go_enter Tryz.func115, Tryz.ntmps115
    go_wp2_with (go_at_call 130; refine HB.out.mono ?_; rintro e w' ⟨⟨r, rfl, hr⟩, q, rfl⟩; obtain rfl := hr A3.out; clear hr)
    go_ret3
    exact ⟨by rw [A1.out, A2.out]; rfl, (Kept.refl _ _).drewN _⟩
namespace Gl
/-- a piece as it stands in cells -/
structure Pc where
  at_ : Int
  r : Int
  n : Int
  ok : Bool
def pcE : Enc Pc := ⟨4, fun p => [.int .i64 p.at_, .int .i32 p.r, .int .i64 p.n, .bool p.ok], fun _ => rfl, by decide, fun p u hu => by
  simp at hu
  rcases hu with rfl | rfl | rfl | rfl <;> rfl⟩
def pcOf (s : ByteArray) (j : Nat) : Int × Int × Bool := ((j : Int), (((Utf8.decode s j).1 : Nat) : Int), decide (runeW s j ≠ 0))
def Pc.say (p : Pc) : Int × Int × Bool := (p.at_, p.r, p.ok)
end Gl
theorem info_pc : (Tryz.prog.info? 151).map (fun i => (i.zero, i.size, i.bytes)) = some (some (.agg #[.int .i64 0, .int .i32 0, .int .i64 0, .bool false]), 4, 32) := by kernel_rfl
theorem lit_pc (w : World) (p : Pc) : SlAt pcE (w.alloc (.cells #[.int .i64 p.at_, .int .i32 p.r, .int .i64 p.n, .bool p.ok] 151)) (.slice (some ⟨w.heap.size, 0, none⟩) 1 1) [p] := SlAt.lit (E := pcE) [p] _ rfl (by show 1 ≤ maxLen; decide)
set_option maxRecDepth 100000 in
set_option maxHeartbeats 4000000 in
theorem rpieces_any {s : ByteArray} (hs : s.size ≤ 1000000) (w : World) : Calls Tryz.prog 99 #[.string s] w fun e w' => ∃ v, e = .returned v ∧ ∃ L, w'.ownsRow w.heap.size 151 4 v L.length (pcE.flat L) ∧ L.map Pc.say = (pieces s 0).map (pcOf s) ∧ Kept (fun _ => False) w w' := by
  have hcl := countR_le s
  go_enter Tryz.func99, Tryz.ntmps99
  go_wp2_with fail
  go_loopw [3, 4] (fun lv iv wr => ∃ (i : Nat) (L : List Pc), iv = .int .i64 i ∧ i ≤ s.size ∧ wr.ownsRow w.heap.size 151 4 lv L.length (pcE.flat L) ∧ L.map Pc.say ++ (pieces s i).map (pcOf s) = (pieces s 0).map (pcOf s) ∧ Kept (fun _ => False) w wr) (fun _ iv _ => s.size - (intOf iv).toNat)
  case atStart => exact ⟨0, [], rfl, Nat.zero_le _, World.ownsRow_nil _ _ _ _, rfl, Kept.refl _ _⟩
  case round =>
    obtain ⟨i, L, rfl, hi, ho, hp, hk⟩ := hrel
    have HP := Lib.hid hp
    have HO := Lib.hid ho
    have KW := Lib.hid hk
    have hi0 : (0 : Int) ≤ i := by omega
    have hLl : L.length ≤ 1000000 := by
      have h1 := congrArg List.length hp
      rw [List.length_append, List.length_map, List.length_map, List.length_map] at h1
      unfold countR at hcl
      omega
    have HLL := Lib.hid hLl
    clear hp ho hk hLl
    by_cases hlt : i < s.size
    case neg =>
      have hltI : ¬ (i : Int) < s.size := by omega
      have HE := Lib.hid (pieces_end hlt)
      clear hlt
      go_wp2_with fail
      go_ret
      exact ⟨_, rfl, L, HO.out, by have := HP.out; rw [HE.out, List.map_nil, List.append_nil] at this; exact this, KW.out⟩
    case pos =>
      have hltI : (i : Int) < s.size := by omega
      have hin := stepW_in hlt
      have hsp := stepW_pos s i
      have HN := Lib.hid (pieces_next hlt)
      have HD := Lib.hid (fun w' => rdecode_any hs hlt w')
      obtain ⟨st, hst⟩ : ∃ n, stepW s i = n := ⟨_, rfl⟩
      obtain ⟨b, hb⟩ : ∃ b, decide (runeW s i ≠ 0) = b := ⟨_, rfl⟩
      obtain ⟨d, hd⟩ : ∃ d, (Utf8.decode s i).1 = d := ⟨_, rfl⟩
      obtain ⟨m, hm⟩ : ∃ m, i + st = m := ⟨_, rfl⟩
      have hw : IntKind.i64.wrap ((i : Int) + (st : Int)) = (m : Int) := by rw [IntKind.wrap_i64]; omega
      have PO := Lib.hid (show pcOf s i = ((i : Int), (d : Int), b) by unfold pcOf; rw [hb, hd])
      rw [hst] at hin hsp
      rw [hst] at HD HN
      rw [hb, hd] at HD
      have HM := Lib.hid hm
      have HIN := Lib.hid hin
      have HSP := Lib.hid hsp
      clear hb hst hm hin hsp hcl hd
      go_upto_region 5 with (go_at_call 115; refine (HD.out _).mono ?_; rintro e w1 ⟨rfl, hk1⟩)
      have LD := Lib.hid (lit_pc w1 ⟨i, d, st, b⟩)
      have k2 : Kept (fun _ => False) w1 (w1.alloc (.cells #[.int .i64 i, .int .i32 d, .int .i64 st, .bool b] 151)) := (Kept.refl _ _).alloc _
      have O2 := Lib.hid (owns_keep (owns_keep HO.out hk1 (fun _ _ h => h)) k2 (fun _ _ h => h))
      have K2 := Lib.hid ((KW.out.trans hk1 (fun _ _ h => h)).trans k2 (fun _ _ h => h))
      clear hk1 k2
      go_wp2_with (at_builtin; refine wpList_append_row pcE rfl (.tmp 19) (.tmp 25) 148 rfl w.heap.size 151 _ 32 Tryz.underlying148 info_pc rfl rfl rfl O2.out LD.out (by have := HLL.out; show L.length + 1 ≤ maxLen; unfold maxLen; omega) (by have := HLL.out; show (L.length + 1) * 32 ≤ 140737488355328; omega) K2.out.size ?_; intro v3 w3 ho3 hk3)
      go_roundw
      case rel =>
        refine ⟨m, L ++ [(⟨i, d, st, b⟩ : Pc)], rfl, by have := HIN.out; have := HM.out; omega, by exact ho3, ?_, K2.out.over hk3 (fun x hx => owns_new O2.out x hx)⟩
        have h1 := HP.out
        rw [HN.out, List.map_cons, PO.out, HM.out] at h1
        rw [List.map_append, List.append_assoc]
        exact h1
      case measure => have := HM.out; have := HSP.out; simp [intOf]; omega
theorem bad_step {s : ByteArray} {L : List Pc} {P : List Nat} (h : L.map Pc.say = P.map (pcOf s)) : (L.find? fun p => !p.ok).map (·.at_) = (P.find? fun j => decide (runeW s j = 0)).map (fun j => (j : Int)) := by
  induction P generalizing L with
  | nil =>
    obtain rfl : L = [] := by simpa using h
    rfl
  | cons j P ih =>
    cases L with
    | nil => simp at h
    | cons p L =>
      rw [List.map_cons, List.map_cons] at h
      injection h with h1 h2
      have e1 : p.at_ = (pcOf s j).1 := congrArg Prod.fst h1
      have e2 : p.ok = (pcOf s j).2.2 := congrArg (fun x => x.2.2) h1
      unfold pcOf at e1 e2
      simp only at e1 e2
      by_cases hz : runeW s j = 0
      · have e3 : p.ok = false := by rw [e2]; exact decide_eq_false (fun h => h hz)
        rw [List.find?_cons_of_pos (by simp [e3]), List.find?_cons_of_pos (by simpa using hz)]
        simp [e1]
      · have e3 : p.ok = true := by rw [e2]; exact decide_eq_true hz
        rw [List.find?_cons_of_neg (by simp [e3]), List.find?_cons_of_neg (by simpa using hz)]
        exact ih h2
/-- where the first bad one is -/
def badL (L : List Pc) : Int := match L.find? (fun p => !p.ok) with
  | some p => p.at_
  | none => -1
theorem badL_eq {s : ByteArray} {L : List Pc} (h : L.map Pc.say = (pieces s 0).map (pcOf s)) : badL L = badFrom s 0 := by
  have h1 := bad_step h
  unfold badL badFrom
  cases h2 : L.find? fun p => !p.ok with
  | none =>
    rw [h2] at h1
    cases h3 : (pieces s 0).find? fun j => decide (runeW s j = 0) with
    | none => rfl
    | some j => rw [h3] at h1; cases h1
  | some p =>
    rw [h2] at h1
    cases h3 : (pieces s 0).find? fun j => decide (runeW s j = 0) with
    | none => rw [h3] at h1; cases h1
    | some j =>
      rw [h3] at h1
      have : p.at_ = j := by simpa using h1
      exact this
set_option maxRecDepth 100000 in
set_option maxHeartbeats 2000000 in
theorem rbadAt_any {s : ByteArray} (hs : s.size ≤ 1000000) (w : World) : Calls Tryz.prog 98 #[.string s] w fun e w' => e = .returned (.int .i64 (badFrom s 0)) ∧ Kept (fun _ => False) w w' := by
  have HPC := Lib.hid (rpieces_any hs w)
  have hcl := countR_le s
  unfold countR at hcl
  go_enter Tryz.func98, Tryz.ntmps98
  go_upto_region 2 with (go_at_call 99; refine HPC.out.mono ?_; rintro e w1 ⟨v, rfl, L, ho, hp, hk⟩)
  have hLl : L.length ≤ 1000000 := by
    have h1 := congrArg List.length hp
    rw [List.length_map, List.length_map] at h1
    omega
  have BL := Lib.hid (badL_eq hp)
  obtain ⟨a, c, rfl⟩ := owns_sl ho
  have HO := Lib.hid ho
  have KW := Lib.hid hk
  clear hp ho hk hcl HPC hs
  generalize hm : L.length = m at *
  have HM := Lib.hid hm
  clear hm
  go_wp2_with fail
  go_loopw [4] (fun iv wr => ∃ k : Nat, iv = .int .i64 k ∧ k ≤ m ∧ badL (L.drop k) = badL L ∧ wr = w1) (fun iv _ => m - (intOf iv).toNat)
  case atStart => exact ⟨0, rfl, Nat.zero_le _, rfl, rfl⟩
  case round =>
    obtain ⟨k, rfl, hk, hb, rfl⟩ := hrel
    have hk0 : (0 : Int) ≤ k := by omega
    have HB := Lib.hid hb
    clear hb
    by_cases hlt : k < m
    case neg =>
      have hltI : ¬ (k : Int) < m := by omega
      have ANS := Lib.hid (show badFrom s 0 = -1 by rw [← BL.out, ← HB.out, List.drop_eq_nil_of_le (by rw [HM.out]; omega)]; rfl)
      go_wp2_with fail
      go_ret
      exact ⟨by rw [ANS.out]; rfl, KW.out⟩
    case pos =>
      have hltI : (k : Int) < m := by omega
      obtain ⟨_, ⟨_, hno⟩ | ⟨g, cap, hv, _, hO⟩⟩ := own_of (E := pcE) HO.out
      · have h1 := HM.out
        rw [hno] at h1; simp at h1; omega
      injection hv with e1 _ e2
      subst e1 e2
      have hkl : k < L.length := by rw [HM.out]; exact hlt
      obtain ⟨x, hx⟩ : ∃ x, L[k]? = some x := ⟨_, List.getElem?_eq_getElem hkl⟩
      have hd : L.drop k = x :: L.drop (k + 1) := by
        rw [List.drop_eq_getElem_cons hkl]
        congr 1
        rw [List.getElem?_eq_getElem hkl] at hx
        injection hx
      have c0 : wr.cell? ⟨g, k * 4 + 0, none⟩ = some (.int .i64 x.at_) := hO.cell hx (j := 0) rfl
      have c3 : wr.cell? ⟨g, k * 4 + 3, none⟩ = some (.bool x.ok) := hO.cell hx (j := 3) rfl
      rw [Nat.add_zero] at c0
      obtain ⟨x0, x1, x2, xo⟩ := x
      have HDR := Lib.hid hd
      clear hd hx hO hkl
      simp only at c0 c3
      cases xo
      · have ANS := Lib.hid (show badFrom s 0 = x0 by rw [← BL.out, ← HB.out, HDR.out]; rfl)
        go_wp2_with fail
        go_ret
        exact ⟨by rw [ANS.out]; rfl, KW.out⟩
      · have HB2 := Lib.hid (show badL (L.drop (k + 1)) = badL L by rw [← HB.out, HDR.out]; rfl)
        go_wp2_with fail
        go_roundw
        case rel => exact ⟨k + 1, by go_num, by omega, HB2.out, trivial⟩
        case measure => simp [intOf] <;> omega
set_option maxRecDepth 100000 in
theorem rgood_any {s : ByteArray} (hs : s.size ≤ 1000000) (w : World) : Calls Tryz.prog 69 #[.string s] w fun e w' => e = .returned (.bool (decide (badFrom s 0 < 0))) ∧ Kept (fun _ => False) w w' := by
  have HB := Lib.hid (rbadAt_any hs w)
  clear hs
  generalize badFrom s 0 = n at *
  go_enter Tryz.func69, Tryz.ntmps69
  go_wp2_with (go_at_call 98; refine HB.out.mono ?_; rintro e w1 ⟨rfl, hk⟩)
  go_ret
  exact ⟨rfl, hk⟩
end Go.Proofs.YtlafodnaifghcaaGreat
namespace Go.Proofs.YtlafodnaifghcaaGreat.St
def sortID_ren : Go.Shelf.Ren := ⟨fun | 6 => 92 | 15 => 112 | 14 => 111 | 28 => 127 | 29 => 128 | 20 => 119 | 21 => 120 | 22 => 121 | 23 => 122 | 24 => 123 | 25 => 124 | 26 => 125 | 27 => 126 | 46 => 132 | 47 => 133 | 48 => 134 | 49 => 135 | 50 => 136 | 57 => 139 | n => n, fun | 22 => 98 | 24 => 37 | 25 => 88 | 3 => 3 | 39 => 154 | 0 => 0 | 53 => 176 | 55 => 164 | 4 => 4 | 46 => 170 | 45 => 169 | 50 => 132 | 5 => 5 | 9 => 9 | 66 => 182 | 70 => 186 | 76 => 190 | 77 => 70 | n => n, fun | n => n⟩
theorem sortID : Go.Proofs.SlLaysF0.n6 Tryz.prog sortID_ren := {
  mixed := by kernel_rfl,
  f6 := ⟨Tryz.f92.name, by decide, Tryz.func92.trans (congrArg some (by kernel_rfl))⟩,
  f14 := ⟨Tryz.f111.name, by decide, Tryz.func111.trans (congrArg some (by kernel_rfl))⟩,
  f15 := Tryz.func112.trans (congrArg some (by kernel_rfl)),
  f20 := ⟨Tryz.f119.name, by decide, Tryz.func119.trans (congrArg some (by kernel_rfl))⟩,
  f21 := ⟨Tryz.f120.name, by decide, Tryz.func120.trans (congrArg some (by kernel_rfl))⟩,
  f22 := ⟨Tryz.f121.name, by decide, Tryz.func121.trans (congrArg some (by kernel_rfl))⟩,
  f23 := ⟨Tryz.f122.name, by decide, Tryz.func122.trans (congrArg some (by kernel_rfl))⟩,
  f24 := ⟨Tryz.f123.name, by decide, Tryz.func123.trans (congrArg some (by kernel_rfl))⟩,
  f25 := ⟨Tryz.f124.name, by decide, Tryz.func124.trans (congrArg some (by kernel_rfl))⟩,
  f26 := ⟨Tryz.f125.name, by decide, Tryz.func125.trans (congrArg some (by kernel_rfl))⟩,
  f27 := ⟨Tryz.f126.name, by decide, Tryz.func126.trans (congrArg some (by kernel_rfl))⟩,
  f28 := Tryz.func127.trans (congrArg some (by kernel_rfl)),
  f29 := Tryz.func128.trans (congrArg some (by kernel_rfl)),
  f46 := ⟨Tryz.f132.name, by decide, Tryz.func132.trans (congrArg some (by kernel_rfl))⟩,
  f47 := Tryz.func133.trans (congrArg some (by kernel_rfl)),
  f48 := Tryz.func134.trans (congrArg some (by kernel_rfl)),
  f49 := ⟨Tryz.f135.name, by decide, Tryz.func135.trans (congrArg some (by kernel_rfl))⟩,
  f50 := ⟨Tryz.f136.name, by decide, Tryz.func136.trans (congrArg some (by kernel_rfl))⟩,
  f57 := ⟨Tryz.f139.name, by decide, Tryz.func139.trans (congrArg some (by kernel_rfl))⟩,
  t0 := Tryz.underlying0,
  a0 := Tryz.isAgg0,
  z0 := Tryz.sizeOf0,
  v0 := Tryz.zeroValue0,
  t3 := Tryz.underlying3,
  a3 := Tryz.isAgg3,
  z3 := Tryz.sizeOf3,
  v3 := Tryz.zeroValue3,
  t4 := Tryz.underlying4,
  a4 := Tryz.isAgg4,
  z4 := Tryz.sizeOf4,
  v4 := Tryz.zeroValue4,
  t5 := Tryz.underlying5,
  a5 := Tryz.isAgg5,
  z5 := Tryz.sizeOf5,
  v5 := Tryz.zeroValue5,
  t9 := Tryz.underlying9,
  a9 := Tryz.isAgg9,
  z9 := Tryz.sizeOf9,
  v9 := Tryz.zeroValue9,
  t22 := Tryz.underlying98,
  a22 := Tryz.isAgg98,
  z22 := Tryz.sizeOf98,
  v22 := Tryz.zeroValue98,
  t25 := Tryz.underlying88,
  a25 := Tryz.isAgg88,
  z25 := Tryz.sizeOf88,
  v25 := Tryz.zeroValue88,
  t39 := Tryz.underlying154,
  a39 := Tryz.isAgg154,
  z39 := Tryz.sizeOf154,
  v39 := Tryz.zeroValue154,
  t45 := Tryz.underlying169,
  a45 := Tryz.isAgg169,
  z45 := Tryz.sizeOf169,
  v45 := Tryz.zeroValue169,
  t46 := Tryz.underlying170,
  a46 := Tryz.isAgg170,
  z46 := Tryz.sizeOf170,
  v46 := Tryz.zeroValue170,
  t50 := Tryz.underlying132,
  a50 := Tryz.isAgg132,
  z50 := Tryz.sizeOf132,
  v50 := Tryz.zeroValue132,
  t53 := Tryz.underlying176,
  a53 := Tryz.isAgg176,
  z53 := Tryz.sizeOf176,
  v53 := Tryz.zeroValue176,
  t55 := Tryz.underlying164,
  a55 := Tryz.isAgg164,
  z55 := Tryz.sizeOf164,
  v55 := Tryz.zeroValue164,
  t66 := Tryz.underlying182,
  a66 := Tryz.isAgg182,
  z66 := Tryz.sizeOf182,
  v66 := Tryz.zeroValue182,
  t70 := Tryz.underlying186,
  a70 := Tryz.isAgg186,
  z70 := Tryz.sizeOf186,
  v70 := Tryz.zeroValue186,
  t76 := Tryz.underlying190,
  a76 := Tryz.isAgg190,
  z76 := Tryz.sizeOf190,
  v76 := Tryz.zeroValue190,
  t77 := Tryz.underlying70,
  a77 := Tryz.isAgg70,
  z77 := Tryz.sizeOf70,
  v77 := Tryz.zeroValue70 }
end Go.Proofs.YtlafodnaifghcaaGreat.St
namespace Go.Proofs.YtlafodnaifghcaaGreat
open Go.RowKit
open Go.Sort (putRowK HoldsK flatK size_flatK get_flatK grow)
section
variable {α : Type} [Inhabited α] {E : Enc α} {w : World} {t : TypeId} {g cap : Nat} {D D' : List α}
theorem flatK_get {i j : Nat} {x : α} {u : Value} (hx : D[i]? = some x) (hu : (E.enc x)[j]? = some u) : i * E.k + j < (flatK E.enc E.k D.toArray).size ∧ (flatK E.enc E.k D.toArray)[i * E.k + j]! = u := by
  have hi : i < D.length := (List.getElem?_eq_some_iff.1 hx).1
  have hj : j < E.k := by rw [← E.len x]; exact (List.getElem?_eq_some_iff.1 hu).1
  have hlt : i * E.k + j < D.toArray.size * E.k := by
    have := Nat.mul_le_mul_right E.k (show i + 1 ≤ D.length by omega)
    rw [Nat.add_mul] at this
    simp only [List.size_toArray]
    omega
  refine ⟨by rw [size_flatK]; exact hlt, ?_⟩
  rw [get_flatK _ _ _ _ hlt]
  have e1 : (i * E.k + j) / E.k = i := by rw [Nat.mul_comm, Nat.mul_add_div E.pos, Nat.div_eq_of_lt hj, Nat.add_zero]
  have e2 : (i * E.k + j) % E.k = j := by rw [Nat.mul_comm, Nat.mul_add_mod, Nat.mod_eq_of_lt hj]
  have e3 : D.toArray[i]! = x := by
    rw [getElem!_pos D.toArray i (by simpa using hi)]
    have := (List.getElem?_eq_some_iff.1 hx).2
    simpa using this
  rw [e1, e2, e3]
  have hjl := (List.getElem?_eq_some_iff.1 hu)
  rw [getElem!_pos _ j hjl.1]
  exact hjl.2
theorem OwnAt.holdsK (h : OwnAt E w t g cap D) : HoldsK E.enc E.k w g 0 D.toArray := by
  intro m hm
  rw [size_flatK] at hm
  simp only [List.size_toArray] at hm
  have e : m = m / E.k * E.k + m % E.k := by have := Nat.div_add_mod m E.k; rw [Nat.mul_comm] at this; omega
  have hi : m / E.k < D.length := Nat.div_lt_of_lt_mul (by rw [Nat.mul_comm]; exact hm)
  have hj : m % E.k < E.k := Nat.mod_lt _ E.pos
  have hx := List.getElem?_eq_getElem hi
  have hu : (E.enc D[m / E.k])[m % E.k]? = some _ := List.getElem?_eq_getElem (by rw [E.len]; exact hj)
  have h1 := h.cell hx hu
  have h2 := (flatK_get hx hu).2
  rw [← e] at h1 h2
  rw [Nat.zero_add, h2]
  exact ⟨h1, h.frozen m⟩
theorem OwnAt.sorted (h : OwnAt E w t g cap D) (hl : D'.length = D.length) (n : Nat) (os : Array Obj) :
    OwnAt E (sortWorldK E.enc E.k w g 0 n D'.toArray os) t g cap D' ∧ Kept (· = g) w (sortWorldK E.enc E.k w g 0 n D'.toArray os) := by
  obtain ⟨cs, h1, h2, h3, h4, h5⟩ := h
  have hlt := h1.lt
  refine ⟨⟨Go.Sort.putCells id 0 (flatK E.enc E.k D'.toArray) cs, ?_, ?_, by omega, h4, ?_⟩, ⟨rfl, rfl, rfl, ?_, ?_⟩⟩
  · unfold Blk at h1 ⊢
    show (w.heap.modify g (Go.Sort.onCells (Go.Sort.putCells id 0 (flatK E.enc E.k D'.toArray))) ++ os)[g]? = _
    rw [Array.getElem?_append_left (by simpa using hlt), Array.getElem?_modify, if_pos rfl, h1]
    rfl
  · simp [Go.Sort.putCells, h2]
  · intro i x hx j u hu
    obtain ⟨g1, g2⟩ := flatK_get hx hu
    have hm : i * E.k + j < cs.size := by
      rw [size_flatK] at g1
      simp only [List.size_toArray] at g1
      have := Nat.mul_le_mul_right E.k h3
      rw [← hl] at this
      omega
    simp only [Go.Sort.putCells, Array.getElem?_mapIdx, Array.getElem?_eq_getElem hm, Option.map_some]
    rw [if_pos ⟨Nat.zero_le _, by omega⟩, Nat.sub_zero, g2]
    rfl
  · simp [sortWorldK, grow, putRowK, Go.Sort.putRow, Go.Sort.mapBlock, Go.Sort.ahead]
  · intro k hk hne
    have : ¬ g = k := fun e => hne e.symm
    show (w.heap.modify g (Go.Sort.onCells (Go.Sort.putCells id 0 (flatK E.enc E.k D'.toArray))) ++ os)[k]? = _
    rw [Array.getElem?_append_left (by simpa using hk), Array.getElem?_modify, if_neg this]
end
namespace St
open Go.Sort (SWO)
theorem lt_of (x y : ID) : Go.Proofs.ltOf ID.cmp x y = decide (x.lt y) := by
  unfold Go.Proofs.ltOf
  rw [decide_eq_decide]
  exact cmp_lt
theorem swo_id : SWO (Go.Proofs.ltOf ID.cmp) where
  irrefl x := by rw [lt_of]; simpa using ID.lt_irrefl x
  trans x y z h1 h2 := by rw [lt_of] at *; simp only [decide_eq_true_eq] at *; exact ID.lt_trans h1 h2
  ntrans x y z h1 h2 := by
    rw [lt_of] at *
    simp only [decide_eq_false_iff_not] at *
    unfold ID.lt at *
    omega
theorem part_id (x y : ID) (h1 : Go.Proofs.ltOf ID.cmp x y = false) (h2 : Go.Proofs.ltOf ID.cmp y x = false) : x = y := by
  rw [lt_of] at h1 h2
  simp only [decide_eq_false_iff_not] at h1 h2
  rcases x.lt_or y with h | h | h
  · exact absurd h h1
  · exact h
  · exact absurd h h2
/-- no later one is lower -/
def Sorted (l : List ID) : Prop := l.Pairwise fun a b => ¬ b.lt a
theorem merge_id (D : List ID) : (D.mergeSort fun x y => !Go.Proofs.ltOf ID.cmp y x).Perm D ∧ Sorted (D.mergeSort fun x y => !Go.Proofs.ltOf ID.cmp y x) := by
  refine ⟨List.mergeSort_perm .., ?_⟩
  have := List.pairwise_mergeSort (le := fun x y => !Go.Proofs.ltOf ID.cmp y x) (fun a b c h1 h2 => by
    simp only [Bool.not_eq_true'] at *
    exact swo_id.ntrans c b a h2 h1) (fun a b => by
    simp only [Bool.or_eq_true, Bool.not_eq_true', lt_of, decide_eq_false_iff_not]
    by_cases h : b.lt a
    · exact .inr fun h' => ID.lt_irrefl _ (ID.lt_trans h h')
    · exact .inl h) D
  refine this.imp fun {a b} h => ?_
  simpa [lt_of] using h
theorem cmpLays_id (g n : Nat) (w : World) : CmpLays Tryz.prog 46 #[] idE.enc 2 ID.cmp g 0 n w := fun _ _ _ _ x y => compare_any x y _
theorem aggId : ∀ w, (isAgg (sortID_ren.t 24)).run Tryz.prog w = .ok true w := fun _ => by kernel_rfl
theorem sizeId : ∀ w, (Go.sizeOf (sortID_ren.t 24)).run Tryz.prog w = .ok 2 w := fun _ => by kernel_rfl
theorem sort_id {w : World} {t : TypeId} {g cap : Nat} {D : List ID} (h : OwnAt idE w t g cap D) (hb : D.length ≤ 1000000000) :
    Calls Tryz.prog 92 #[.slice (some ⟨g, 0, none⟩) D.length cap, .func (.func 46) #[] #[]] w fun e w' => e = .returned (.tuple #[]) ∧ ∃ D', D'.Perm D ∧ Sorted D' ∧ OwnAt idE w' t g cap D' ∧ Kept (· = g) w w' := by
  have eg : ∀ args w, (callFunc 46 args).run Tryz.prog w = .ok (.enter 46 args) w := enters_of Tryz.func46 (by kernel_rfl) rfl
  have hcon := AnyQ.slices_SortFunc_total sortID 2 aggId sizeId idE.enc idE.len idE.one ID.cmp swo_id 46 #[] g 0 cap D.toArray w eg (cmpLays_id g _ w) h.holdsK h.lt (by simp; omega) part_id
  refine hcon.mono ?_
  rintro e w' ⟨rfl, n, os, rfl⟩
  obtain ⟨h1, h2⟩ := merge_id D
  obtain ⟨h3, h4⟩ := h.sorted (D' := D.mergeSort fun x y => !Go.Proofs.ltOf ID.cmp y x) (by simp) n os
  exact ⟨rfl, _, h1, h2, h3, h4⟩
end St
end Go.Proofs.YtlafodnaifghcaaGreat
