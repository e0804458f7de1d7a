/- hearsayref1: Decode, Pieces, BadAt, Good and Count. hearsayref7.Has, Covers and Check. -/
import Derived.Test.YtaaeomapbigfgaaGreatV21
import Derived.Test.YtaaeomapbigfgaaGreatV4
import Derived.Deep.DeepCutAuto
import Derived.Test.YtaaeomapbigfgaaGreatV17
import Derived.Test.YtaaeomapbigfgaaGreatV5
namespace Go.Proofs.YtaaeomapbigfgaaGreat
open Go.RowKit Go.Proofs.YtaaeomapbigfgaaGreat.Gl
set_option maxRecDepth 100000 in
set_option maxHeartbeats 2000000 in
theorem rdecode_any {s : ByteArray} {i : Nat} (hs : s.size ≤ 1000000) (hi : i < s.size) (w : World) : Calls Tryz.prog 103 #[.string s, .int .i64 i] w fun e w' => (∃ r : Int, e = .returned (.tuple #[.int .i32 r, .int .i64 (stepW s i), .bool (decide (runeW s i ≠ 0))])) ∧ Kept (fun _ => False) w w' := by
  have hiI : (i : Int) < s.size := by omega
  have hi0 : (0 : Int) ≤ i := by omega
  have HB := Lib.hid (begins_any hs hi w)
  clear hs
  by_cases h0 : runeW s i = 0
  · rw [h0] at HB
    have A1 := Lib.hid (show stepW s i = 1 from if_pos h0)
    have A2 := Lib.hid (show decide (runeW s i ≠ 0) = false from decide_eq_false (fun h => h h0))
    clear h0
    go_enter Tryz.func103, Tryz.ntmps103
    go_wp2_with (go_at_call 104; refine HB.out.mono ?_; rintro e w' ⟨⟨r, rfl⟩, q, rfl⟩)
    go_ret3
    exact ⟨⟨_, by rw [A1.out, A2.out]; rfl⟩, (Kept.refl _ _).drewN _⟩
  · obtain ⟨n, hn⟩ : ∃ n, runeW s i = n := ⟨_, rfl⟩
    rw [hn] at HB
    have A1 := Lib.hid (show stepW s i = n by unfold stepW; rw [if_neg h0, hn])
    have A2 := Lib.hid (show decide (runeW s i ≠ 0) = true from decide_eq_true h0)
    have hnb : ((n : Int) == 0) = false := beq_eq_false_iff_ne.2 (by omega)
    clear h0 hn
    go_enter Tryz.func103, Tryz.ntmps103
    go_wp2_with (go_at_call 104; refine HB.out.mono ?_; rintro e w' ⟨⟨r, rfl⟩, q, rfl⟩)
    go_ret3
    exact ⟨⟨r, by rw [A1.out, A2.out]; rfl⟩, (Kept.refl _ _).drewN _⟩
namespace Gl
/-- a piece as it stands in cells -/
structure Pc where
  at_ : Int
  r : Int
  n : Int
  ok : Bool
def pcE : Enc Pc := ⟨4, fun p => [.int .i64 p.at_, .int .i32 p.r, .int .i64 p.n, .bool p.ok], fun _ => rfl, by decide, fun p u hu => by
  simp at hu
  rcases hu with rfl | rfl | rfl | rfl <;> rfl⟩
def pcOf (s : ByteArray) (j : Nat) : Int × Bool := ((j : Int), decide (runeW s j ≠ 0))
def Pc.say (p : Pc) : Int × Bool := (p.at_, p.ok)
end Gl
theorem info_pc : (Tryz.prog.info? 146).map (fun i => (i.zero, i.size, i.bytes)) = some (some (.agg #[.int .i64 0, .int .i32 0, .int .i64 0, .bool false]), 4, 32) := by kernel_rfl
theorem lit_pc (w : World) (p : Pc) : SlAt pcE (w.alloc (.cells #[.int .i64 p.at_, .int .i32 p.r, .int .i64 p.n, .bool p.ok] 146)) (.slice (some ⟨w.heap.size, 0, none⟩) 1 1) [p] := SlAt.lit (E := pcE) [p] _ rfl (by show 1 ≤ maxLen; decide)
set_option maxRecDepth 100000 in
set_option maxHeartbeats 4000000 in
theorem rpieces_any {s : ByteArray} (hs : s.size ≤ 1000000) (w : World) : Calls Tryz.prog 101 #[.string s] w fun e w' => ∃ v, e = .returned v ∧ ∃ L, w'.ownsRow w.heap.size 146 4 v L.length (pcE.flat L) ∧ L.map Pc.say = (pieces s 0).map (pcOf s) ∧ Kept (fun _ => False) w w' := by
  have hcl := countR_le s
  go_enter Tryz.func101, Tryz.ntmps101
  go_wp2_with fail
  go_loopw [3, 4] (fun lv iv wr => ∃ (i : Nat) (L : List Pc), iv = .int .i64 i ∧ i ≤ s.size ∧ wr.ownsRow w.heap.size 146 4 lv L.length (pcE.flat L) ∧ L.map Pc.say ++ (pieces s i).map (pcOf s) = (pieces s 0).map (pcOf s) ∧ Kept (fun _ => False) w wr) (fun _ iv _ => s.size - (intOf iv).toNat)
  case atStart => exact ⟨0, [], rfl, Nat.zero_le _, World.ownsRow_nil _ _ _ _, rfl, Kept.refl _ _⟩
  case round =>
    obtain ⟨i, L, rfl, hi, ho, hp, hk⟩ := hrel
    have HP := Lib.hid hp
    have HO := Lib.hid ho
    have KW := Lib.hid hk
    have hi0 : (0 : Int) ≤ i := by omega
    have hLl : L.length ≤ 1000000 := by
      have h1 := congrArg List.length hp
      rw [List.length_append, List.length_map, List.length_map, List.length_map] at h1
      unfold countR at hcl
      omega
    have HLL := Lib.hid hLl
    clear hp ho hk hLl
    by_cases hlt : i < s.size
    case neg =>
      have hltI : ¬ (i : Int) < s.size := by omega
      have HE := Lib.hid (pieces_end hlt)
      clear hlt
      go_wp2_with fail
      go_ret
      exact ⟨_, rfl, L, HO.out, by have := HP.out; rw [HE.out, List.map_nil, List.append_nil] at this; exact this, KW.out⟩
    case pos =>
      have hltI : (i : Int) < s.size := by omega
      have hin := stepW_in hlt
      have hsp := stepW_pos s i
      have HN := Lib.hid (pieces_next hlt)
      have HD := Lib.hid (fun w' => rdecode_any hs hlt w')
      obtain ⟨st, hst⟩ : ∃ n, stepW s i = n := ⟨_, rfl⟩
      obtain ⟨b, hb⟩ : ∃ b, decide (runeW s i ≠ 0) = b := ⟨_, rfl⟩
      obtain ⟨m, hm⟩ : ∃ m, i + st = m := ⟨_, rfl⟩
      have hw : IntKind.i64.wrap ((i : Int) + (st : Int)) = (m : Int) := by rw [IntKind.wrap_i64]; omega
      have PO := Lib.hid (show pcOf s i = ((i : Int), b) by unfold pcOf; rw [hb])
      rw [hst] at hin hsp
      rw [hst] at HD HN
      rw [hb] at HD
      have HM := Lib.hid hm
      have HIN := Lib.hid hin
      have HSP := Lib.hid hsp
      clear hb hst hm hin hsp hcl
      go_upto_region 5 with (go_at_call 103; refine (HD.out _).mono ?_; rintro e w1 ⟨⟨r, rfl⟩, hk1⟩)
      have LD := Lib.hid (lit_pc w1 ⟨i, r, st, b⟩)
      have k2 : Kept (fun _ => False) w1 (w1.alloc (.cells #[.int .i64 i, .int .i32 r, .int .i64 st, .bool b] 146)) := (Kept.refl _ _).alloc _
      have O2 := Lib.hid (owns_keep (owns_keep HO.out hk1 (fun _ _ h => h)) k2 (fun _ _ h => h))
      have K2 := Lib.hid ((KW.out.trans hk1 (fun _ _ h => h)).trans k2 (fun _ _ h => h))
      clear hk1 k2
      go_wp2_with (at_builtin; refine wpList_append_row pcE rfl (.tmp 19) (.tmp 25) 141 rfl w.heap.size 146 _ 32 Tryz.underlying141 info_pc rfl rfl rfl O2.out LD.out (by have := HLL.out; show L.length + 1 ≤ maxLen; unfold maxLen; omega) (by have := HLL.out; show (L.length + 1) * 32 ≤ 140737488355328; omega) K2.out.size ?_; intro v3 w3 ho3 hk3)
      go_roundw
      case rel =>
        refine ⟨m, L ++ [(⟨i, r, st, b⟩ : Pc)], rfl, by have := HIN.out; have := HM.out; omega, by exact ho3, ?_, K2.out.over hk3 (fun x hx => owns_new O2.out x hx)⟩
        have h1 := HP.out
        rw [HN.out, List.map_cons, PO.out, HM.out] at h1
        rw [List.map_append, List.append_assoc]
        exact h1
      case measure => have := HM.out; have := HSP.out; simp [intOf]; omega
theorem bad_step {s : ByteArray} {L : List Pc} {P : List Nat} (h : L.map Pc.say = P.map (pcOf s)) : (L.find? fun p => !p.ok).map (·.at_) = (P.find? fun j => decide (runeW s j = 0)).map (fun j => (j : Int)) := by
  induction P generalizing L with
  | nil =>
    obtain rfl : L = [] := by simpa using h
    rfl
  | cons j P ih =>
    cases L with
    | nil => simp at h
    | cons p L =>
      rw [List.map_cons, List.map_cons] at h
      injection h with h1 h2
      have e1 : p.at_ = (pcOf s j).1 := congrArg Prod.fst h1
      have e2 : p.ok = (pcOf s j).2 := congrArg Prod.snd h1
      unfold pcOf at e1 e2
      simp only at e1 e2
      by_cases hz : runeW s j = 0
      · have e3 : p.ok = false := by rw [e2]; exact decide_eq_false (fun h => h hz)
        rw [List.find?_cons_of_pos (by simp [e3]), List.find?_cons_of_pos (by simpa using hz)]
        simp [e1]
      · have e3 : p.ok = true := by rw [e2]; exact decide_eq_true hz
        rw [List.find?_cons_of_neg (by simp [e3]), List.find?_cons_of_neg (by simpa using hz)]
        exact ih h2
/-- where the first bad one is -/
def badL (L : List Pc) : Int := match L.find? (fun p => !p.ok) with
  | some p => p.at_
  | none => -1
theorem badL_eq {s : ByteArray} {L : List Pc} (h : L.map Pc.say = (pieces s 0).map (pcOf s)) : badL L = badFrom s 0 := by
  have h1 := bad_step h
  unfold badL badFrom
  cases h2 : L.find? fun p => !p.ok with
  | none =>
    rw [h2] at h1
    cases h3 : (pieces s 0).find? fun j => decide (runeW s j = 0) with
    | none => rfl
    | some j => rw [h3] at h1; cases h1
  | some p =>
    rw [h2] at h1
    cases h3 : (pieces s 0).find? fun j => decide (runeW s j = 0) with
    | none => rw [h3] at h1; cases h1
    | some j =>
      rw [h3] at h1
      have : p.at_ = j := by simpa using h1
      exact this
set_option maxRecDepth 100000 in
set_option maxHeartbeats 2000000 in
theorem rbadAt_any {s : ByteArray} (hs : s.size ≤ 1000000) (w : World) : Calls Tryz.prog 100 #[.string s] w fun e w' => e = .returned (.int .i64 (badFrom s 0)) ∧ Kept (fun _ => False) w w' := by
  have HPC := Lib.hid (rpieces_any hs w)
  have hcl := countR_le s
  unfold countR at hcl
  go_enter Tryz.func100, Tryz.ntmps100
  go_upto_region 2 with (go_at_call 101; refine HPC.out.mono ?_; rintro e w1 ⟨v, rfl, L, ho, hp, hk⟩)
  have hLl : L.length ≤ 1000000 := by
    have h1 := congrArg List.length hp
    rw [List.length_map, List.length_map] at h1
    omega
  have BL := Lib.hid (badL_eq hp)
  obtain ⟨a, c, rfl⟩ := owns_sl ho
  have HO := Lib.hid ho
  have KW := Lib.hid hk
  clear hp ho hk hcl HPC hs
  generalize hm : L.length = m at *
  have HM := Lib.hid hm
  clear hm
  go_wp2_with fail
  go_loopw [4] (fun iv wr => ∃ k : Nat, iv = .int .i64 k ∧ k ≤ m ∧ badL (L.drop k) = badL L ∧ wr = w1) (fun iv _ => m - (intOf iv).toNat)
  case atStart => exact ⟨0, rfl, Nat.zero_le _, rfl, rfl⟩
  case round =>
    obtain ⟨k, rfl, hk, hb, rfl⟩ := hrel
    have hk0 : (0 : Int) ≤ k := by omega
    have HB := Lib.hid hb
    clear hb
    by_cases hlt : k < m
    case neg =>
      have hltI : ¬ (k : Int) < m := by omega
      have ANS := Lib.hid (show badFrom s 0 = -1 by rw [← BL.out, ← HB.out, List.drop_eq_nil_of_le (by rw [HM.out]; omega)]; rfl)
      go_wp2_with fail
      go_ret
      exact ⟨by rw [ANS.out]; rfl, KW.out⟩
    case pos =>
      have hltI : (k : Int) < m := by omega
      obtain ⟨_, ⟨_, hno⟩ | ⟨g, cap, hv, _, hO⟩⟩ := own_of (E := pcE) HO.out
      · have h1 := HM.out
        rw [hno] at h1; simp at h1; omega
      injection hv with e1 _ e2
      subst e1 e2
      have hkl : k < L.length := by rw [HM.out]; exact hlt
      obtain ⟨x, hx⟩ : ∃ x, L[k]? = some x := ⟨_, List.getElem?_eq_getElem hkl⟩
      have hd : L.drop k = x :: L.drop (k + 1) := by
        rw [List.drop_eq_getElem_cons hkl]
        congr 1
        rw [List.getElem?_eq_getElem hkl] at hx
        injection hx
      have c0 : wr.cell? ⟨g, k * 4 + 0, none⟩ = some (.int .i64 x.at_) := hO.cell hx (j := 0) rfl
      have c3 : wr.cell? ⟨g, k * 4 + 3, none⟩ = some (.bool x.ok) := hO.cell hx (j := 3) rfl
      rw [Nat.add_zero] at c0
      obtain ⟨x0, x1, x2, xo⟩ := x
      have HDR := Lib.hid hd
      clear hd hx hO hkl
      simp only at c0 c3
      cases xo
      · have ANS := Lib.hid (show badFrom s 0 = x0 by rw [← BL.out, ← HB.out, HDR.out]; rfl)
        go_wp2_with fail
        go_ret
        exact ⟨by rw [ANS.out]; rfl, KW.out⟩
      · have HB2 := Lib.hid (show badL (L.drop (k + 1)) = badL L by rw [← HB.out, HDR.out]; rfl)
        go_wp2_with fail
        go_roundw
        case rel => exact ⟨k + 1, by go_num, by omega, HB2.out, trivial⟩
        case measure => simp [intOf] <;> omega
set_option maxRecDepth 100000 in
theorem rgood_any {s : ByteArray} (hs : s.size ≤ 1000000) (w : World) : Calls Tryz.prog 90 #[.string s] w fun e w' => e = .returned (.bool (decide (badFrom s 0 < 0))) ∧ Kept (fun _ => False) w w' := by
  have HB := Lib.hid (rbadAt_any hs w)
  clear hs
  generalize badFrom s 0 = n at *
  go_enter Tryz.func90, Tryz.ntmps90
  go_wp2_with (go_at_call 100; refine HB.out.mono ?_; rintro e w1 ⟨rfl, hk⟩)
  go_ret
  exact ⟨rfl, hk⟩
set_option maxRecDepth 100000 in
theorem rcount_any {s : ByteArray} (hs : s.size ≤ 1000000) (w : World) : Calls Tryz.prog 91 #[.string s] w fun e w' => e = .returned (.int .i64 (countR s)) ∧ Kept (fun _ => False) w w' := by
  have HP := Lib.hid (rpieces_any hs w)
  clear hs
  go_enter Tryz.func91, Tryz.ntmps91
  go_wp2_with (go_at_call 101; refine HP.out.mono ?_; rintro e w1 ⟨v, rfl, L, ho, hp, hk⟩; obtain ⟨a, c, rfl⟩ := owns_sl ho)
  go_ret
  have hl : L.length = countR s := by
    have h1 := congrArg List.length hp
    rw [List.length_map, List.length_map] at h1
    exact h1
  exact ⟨by rw [← hl]; rfl, hk⟩
end Go.Proofs.YtaaeomapbigfgaaGreat
namespace Go.Proofs.YtaaeomapbigfgaaGreat
open Go.RowKit Go.Proofs.YtaaeomapbigfgaaGreat.St
theorem rhasV_grew {w : World} {v : Value} {L : List Dot} (h : SlAt dotE w v L) (hb : L.length ≤ 1000000000) (d : Dot) : Calls Tryz.prog 23 #[v, .agg #[.int .i64 d.site, .int .i64 d.seq]] w fun e w' => e = .returned (.bool (decide (hasV L d))) ∧ Grew w w' := by
  have hg := Lib.hid (fun (w' : World) (hk : Grew w w') => rget_grew (h.kept hk.kept) hb d.site)
  have hB := Blk.new w 28 #[.int .i64 d.site, .int .i64 d.seq]
  have b0 : (w.alloc (.cells #[.int .i64 d.site, .int .i64 d.seq] 28)).cell? ⟨w.heap.size, 0, none⟩ = some (.int .i64 d.site) := hB.cell' (i := 0) rfl
  have b1 : (w.alloc (.cells #[.int .i64 d.site, .int .i64 d.seq] 28)).cell? ⟨w.heap.size, 1, none⟩ = some (.int .i64 d.seq) := hB.cell' (i := 1) rfl
  have KD : Grew w (w.alloc (.cells #[.int .i64 d.site, .int .i64 d.seq] 28)).drew := ((Grew.refl _).alloc _).drewN 1
  unfold hasV
  clear hB h
  go_enter Tryz.func23, Tryz.ntmps23
  by_cases h1 : 1 ≤ d.seq
  · have hd1 : decide (1 ≤ d.seq) = true := decide_eq_true h1
    go_wp2_with fail
    go_region_held3 (fun w' => Grew w w' ∧ w'.cell? ⟨w.heap.size, 0, none⟩ = some (.int .i64 d.site) ∧ w'.cell? ⟨w.heap.size, 1, none⟩ = some (.int .i64 d.seq)) (first | (with_reducible exact ⟨KD, b0, b1⟩) | go_keep)
      (first | (go_simp; go_at_call 21; refine (hg.out _ KD).mono ?_; rintro e w1 ⟨rfl, hk1⟩; have KE := KD.trans hk1; have b0 := hk1.kept.cell b0; have b1 := hk1.kept.cell b1))
    go_wp2_with fail
    go_ret
    exact ⟨by simp [h1], KE⟩
  · have hd1 : decide (1 ≤ d.seq) = false := decide_eq_false h1
    have e2 : decide (1 ≤ d.seq ∧ d.seq ≤ getV L d.site) = false := decide_eq_false fun h => h1 h.1
    go_wp2_with fail
    go_region
    go_wp2_with fail
    go_ret
    exact ⟨congrArg (fun b => Ending.returned (.bool b)) e2.symm, KD⟩
theorem rhasV_any {w : World} {v : Value} {L : List Dot} (h : SlAt dotE w v L) (hb : L.length ≤ 1000000000) (d : Dot) : Calls Tryz.prog 23 #[v, .agg #[.int .i64 d.site, .int .i64 d.seq]] w fun e w' => e = .returned (.bool (decide (hasV L d))) ∧ Kept (fun _ => False) w w' := (rhasV_grew h hb d).mono fun _ _ ⟨he, hg⟩ => ⟨he, hg.kept⟩
set_option maxRecDepth 100000 in
set_option maxHeartbeats 4000000 in
theorem rcovers_grew {w : World} {va vb : Value} {A B : List Dot} (ha : SlAt dotE w va A) (hb : SlAt dotE w vb B) (hla : A.length ≤ 1000000000) (hlb : B.length ≤ 1000000000) :
    Calls Tryz.prog 20 #[va, vb] w fun e w' => e = .returned (.bool (decide (coversV A B))) ∧ Grew w w' := by
  have hoa := rsays_grew ha hla
  have HB := Lib.hid hb
  clear hb
  go_enter Tryz.func20, Tryz.ntmps20
  go_upto_region 2 with (first
      | (refine wpList_store_row rfl 89 _ _ rfl w1.heap.size (cells (says A)) rfl rfl 89 zero17 P1.out (by rw [cells_size]; kernel_rfl) (by rw [cells_size]; rfl) (cells_one _) ?_)
      | (go_at_call 51; refine hoa.mono ?_; rintro e w1 ⟨rfl, hk1⟩; have P1 := Lib.hid (Blk.new w1 89 zero17)))
  have Q1 := Lib.hid (P1.out.row (cells (says A)))
  have s1 := hk1.kept.size
  have k1 : Grew w ((w1.alloc (.cells zero17 89)).setRow w1.heap.size (cells (says A))) := (hk1.alloc _).setRow s1 _
  have K1 := Lib.hid k1
  clear P1 hk1 hoa k1
  generalize (w1.alloc (.cells zero17 89)).setRow w1.heap.size (cells (says A)) = w2 at *
  go_upto_region 3 with (first
      | (refine wpList_store_row rfl 89 _ _ rfl w3.heap.size (cells (says B)) rfl rfl 89 zero17 P3.out (by rw [cells_size]; kernel_rfl) (by rw [cells_size]; rfl) (cells_one _) ?_)
      | (go_at_call 51; refine (rsays_grew (HB.out.kept K1.out.kept) hlb).mono ?_; rintro e w3 ⟨rfl, hk3⟩; have P3 := Lib.hid (Blk.new w3 89 zero17)))
  have s3 := hk3.kept.size
  have l1 := Q1.out.lt
  have Q3 := Lib.hid (P3.out.row (cells (says B)))
  have Q1' := Lib.hid (((hk3.kept.blk (fun h => h) Q1.out).alloc (.cells zero17 89)).row_far (g := w3.heap.size) (by omega) (cells (says B)))
  have K3 := Lib.hid (((K1.out.trans hk3).alloc (.cells zero17 89)).setRow (g := w3.heap.size) (by have := K1.out.kept.size; omega) (cells (says B)))
  clear P3 hk3 Q1 K1 l1 s3
  generalize (w3.alloc (.cells zero17 89)).setRow w3.heap.size (cells (says B)) = w4 at *
  go_wp2_with fail
  go_loopw [7] (fun iv wr => ∃ n q : Nat, iv = .int .i64 n ∧ n ≤ 17 ∧ (∀ i, i < n → says B i ≤ says A i) ∧ wr = w4.drewN q) (fun iv _ => 17 - (intOf iv).toNat)
  case atStart => exact ⟨0, 0, rfl, by decide, fun i h => absurd h (Nat.not_lt_zero _), rfl⟩
  case round =>
    obtain ⟨n, q, rfl, hn, hc, rfl⟩ := hrel
    have hn0 : (0 : Int) ≤ n := by omega
    have HC := Lib.hid hc
    clear hc
    by_cases hlt : n < 17
    case neg =>
      obtain rfl : n = 17 := by omega
      have ANS := Lib.hid (show decide (coversV A B) = true from decide_eq_true HC.out)
      go_wp2_with fail
      go_ret
      exact ⟨by rw [ANS.out]; rfl, K3.out.drewN _⟩
    case pos =>
      have hI : (n : Int) < 17 := by omega
      have c1 : w4.cell? ⟨w1.heap.size, n, none⟩ = some (.int .i64 (says A n)) := Q1'.out.cell' (cells_get _ hlt)
      have c2 : w4.cell? ⟨w3.heap.size, n, none⟩ = some (.int .i64 (says B n)) := Q3.out.cell' (cells_get _ hlt)
      by_cases h : says A n < says B n
      · have ANS := Lib.hid (show decide (coversV A B) = false from decide_eq_false (fun hc => by have := hc n hlt; omega))
        go_wp2
        go_quiet (fail)
        go_wp2
        go_ret
        exact ⟨by rw [ANS.out]; rfl, (K3.out.drewN q).drewN _⟩
      · have HH := Lib.hid (show says B n ≤ says A n by omega)
        go_wp2
        go_quiet (fail)
        go_wp2
        go_roundw
        case rel =>
          refine ⟨n + 1, _, by go_num, by omega, fun i hi => ?_, rfl⟩
          by_cases hin : i = n
          · rw [hin]; exact HH.out
          · exact HC.out i (by omega)
        case measure => simp [intOf]; omega
theorem rcovers_any {w : World} {va vb : Value} {A B : List Dot} (ha : SlAt dotE w va A) (hb : SlAt dotE w vb B) (hla : A.length ≤ 1000000000) (hlb : B.length ≤ 1000000000) :
    Calls Tryz.prog 20 #[va, vb] w fun e w' => e = .returned (.bool (decide (coversV A B))) ∧ Kept (fun _ => False) w w' := (rcovers_grew ha hb hla hlb).mono fun _ _ ⟨he, hg⟩ => ⟨he, hg.kept⟩
/-- the site of the one before -/
def lastV (L : List Dot) : Nat → Int
  | 0 => 0
  | k + 1 => match L[k]? with
    | some d => d.site
    | none => 0
theorem lastV_next {L : List Dot} {n : Nat} {d : Dot} (h : L[n]? = some d) : lastV L (n + 1) = d.site := by
  show (match L[n]? with | some d => d.site | none => 0) = d.site
  rw [h]
set_option maxRecDepth 100000 in
set_option maxHeartbeats 4000000 in
theorem rvcheck_drew {w : World} {v : Value} {L : List Dot} (h : SlAt dotE w v L) (hb : L.length ≤ 1000000000) : Calls Tryz.prog 31 #[v] w fun e w' => e = .returned (.int .i64 (chkV 0 L)) ∧ ∃ q, w' = w.drewN q := by
  obtain ⟨a, c, rfl, _, _⟩ := h.sl
  have HS := Lib.hid h
  clear h
  go_enter Tryz.func31, Tryz.ntmps31
  go_wp2_with fail
  go_loopw [3] (fun iv wr => ∃ n q : Nat, iv = .int .i64 n ∧ n ≤ L.length ∧ chkV 0 L = chkV (lastV L n) (L.drop n) ∧ (1 ≤ n → 1 ≤ lastV L n) ∧ wr = w.drewN q) (fun iv _ => L.length - (intOf iv).toNat)
  case atStart => exact ⟨0, 0, rfl, Nat.zero_le _, rfl, fun h => absurd h (by decide), rfl⟩
  case round =>
    obtain ⟨n, q0, rfl, hn, hch, hl1, rfl⟩ := hrel
    have hn0 : (0 : Int) ≤ n := by omega
    by_cases hlt : n < L.length
    case neg =>
      have hnl : ¬ (n : Int) < L.length := by omega
      rw [List.drop_of_length_le (by omega)] at hch
      have CH := Lib.hid hch
      clear hch hl1
      go_wp2_with fail
      go_ret
      exact ⟨by rw [CH.out]; rfl, _, rfl⟩
    case pos =>
      have hltI : (n : Int) < L.length := by omega
      obtain ⟨⟨s, q⟩, hd⟩ := get_of_lt hlt
      obtain ⟨g, o, c', hv, hg, hc⟩ := SlAt.dot HS.out (by omega)
      cases hv
      obtain ⟨c0, c1⟩ := hc n _ hd
      rw [check_step hd] at hch
      simp only at hch c0 c1
      by_cases h1 : isSite s
      case neg =>
        rw [if_pos h1] at hch
        have CH := Lib.hid hch
        clear hch hc hd hl1
        by_cases h2 : s < 1
        · clear h1
          go_wp2_with fail
          go_ret
          exact ⟨by rw [CH.out]; rfl, _, rfl⟩
        · have h3 : 16 < s := by unfold isSite at h1; omega
          clear h1
          go_wp2_with fail
          go_ret
          exact ⟨by rw [CH.out]; rfl, _, rfl⟩
      case pos =>
      rw [if_neg (fun h => h h1)] at hch
      have s1 : ¬ s < 1 := by unfold isSite at h1; omega
      have s2 : ¬ 16 < s := by unfold isSite at h1; omega
      clear h1
      by_cases h2 : q < 1 ∨ 2147483647 < q
      · rw [if_pos h2] at hch
        have CH := Lib.hid hch
        clear hch hc hd hl1
        by_cases h3 : q < 1
        · clear h2
          go_wp2_with fail
          go_ret
          exact ⟨by rw [CH.out]; rfl, _, rfl⟩
        · have h4 : 2147483647 < q := h2.resolve_left h3
          clear h2
          go_wp2_with fail
          go_ret
          exact ⟨by rw [CH.out]; rfl, _, rfl⟩
      rw [if_neg h2] at hch
      have h3 : ¬ q < 1 := fun h => h2 (.inl h)
      have h4 : ¬ 2147483647 < q := fun h => h2 (.inr h)
      clear h2
      have hnext : lastV L (n + 1) = s := lastV_next hd
      have HN := Lib.hid hnext
      clear hnext
      cases n with
      | zero =>
        have h5 : ¬ s ≤ lastV L 0 := by show ¬ s ≤ 0; omega
        rw [if_neg h5] at hch
        have CH := Lib.hid hch
        clear hch hc hd hl1 h5
        simp only [Nat.zero_mul, Nat.add_zero, Int.natCast_zero] at *
        go_wp2_with fail
        go_quiet (fail)
        go_wp2_with fail
        go_roundw
        case rel => exact ⟨1, _, by go_num, by omega, by rw [HN.out]; exact CH.out, fun _ => by rw [HN.out]; omega, rfl⟩
        case measure => simp [intOf] <;> omega
      | succ m =>
        obtain ⟨⟨s', q'⟩, hd'⟩ := get_of_lt (show m < L.length by omega)
        obtain ⟨d0, _⟩ := hc m _ hd'
        simp only at d0
        have hlast : lastV L (m + 1) = s' := lastV_next hd'
        rw [hlast] at hch
        clear hl1 hlast hc hd hd'
        have hm : IntKind.i64.wrap (m : Int) = m := by rw [IntKind.wrap_i64]; omega
        have hmI : (m : Int) < L.length := by omega
        have hm0 : (0 : Int) ≤ m := by omega
        have hpos : (0 : Int) < (m : Int) + 1 := by omega
        by_cases h5 : s ≤ s'
        · rw [if_pos h5] at hch
          have CH := Lib.hid hch
          clear hch
          go_wp2_with fail
          go_quiet (fail)
          go_wp2_with fail
          go_ret
          exact ⟨by rw [CH.out]; rfl, _, World.drewN_drewN _ _ _⟩
        · rw [if_neg h5] at hch
          have CH := Lib.hid hch
          clear hch
          go_wp2_with fail
          go_quiet (fail)
          go_wp2_with fail
          go_roundw
          case rel => exact ⟨m + 1 + 1, _, by go_num, by omega, by rw [HN.out]; exact CH.out, fun _ => by rw [HN.out]; omega, rfl⟩
          case measure => simp [intOf] <;> omega
theorem rvcheck_any {w : World} {v : Value} {L : List Dot} (h : SlAt dotE w v L) (hb : L.length ≤ 1000000000) : Calls Tryz.prog 31 #[v] w fun e w' => e = .returned (.int .i64 (chkV 0 L)) ∧ Kept (fun _ => False) w w' := (rvcheck_drew h hb).mono fun _ _ ⟨he, q, hq⟩ => ⟨he, hq ▸ (Kept.refl _ _).drewN q⟩
theorem rvcheck_grew {w : World} {v : Value} {L : List Dot} (h : SlAt dotE w v L) (hb : L.length ≤ 1000000000) : Calls Tryz.prog 31 #[v] w fun e w' => e = .returned (.int .i64 (chkV 0 L)) ∧ Grew w w' := (rvcheck_drew h hb).mono fun _ _ ⟨he, q, hq⟩ => ⟨he, hq ▸ ⟨q, #[], rfl⟩⟩
end Go.Proofs.YtaaeomapbigfgaaGreat
