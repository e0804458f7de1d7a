/- hearsayref1: Decode, Pieces, BadAt, Good and Count. The document's Compare and After; stamp.last. Runs: why they are none; which identifiers they have. Plain laws. -/
import Derived.Test.YtaaeomapbigfgaaGreatU23
import Derived.Test.YtaaeomapbigfgaaGreatU4
import Derived.Deep.DeepCutAuto
import Derived.Test.YtaaeomapbigfgaaGreatU2
namespace Go.Proofs.YtaaeomapbigfgaaGreat
open Go.RowKit Go.Proofs.YtaaeomapbigfgaaGreat.Gl
set_option maxRecDepth 100000 in
set_option maxHeartbeats 2000000 in
theorem rdecode_any {s : ByteArray} {i : Nat} (hs : s.size ≤ 1000000) (hi : i < s.size) (w : World) : Calls Tryz.prog 103 #[.string s, .int .i64 i] w fun e w' => (∃ r : Int, e = .returned (.tuple #[.int .i32 r, .int .i64 (stepW s i), .bool (decide (runeW s i ≠ 0))])) ∧ Kept (fun _ => False) w w' := by
  have hiI : (i : Int) < s.size := by omega
  have hi0 : (0 : Int) ≤ i := by omega
  have HB := Lib.hid (begins_any hs hi w)
  clear hs
  by_cases h0 : runeW s i = 0
  · rw [h0] at HB
    have A1 := Lib.hid (show stepW s i = 1 from if_pos h0)
    have A2 := Lib.hid (show decide (runeW s i ≠ 0) = false from decide_eq_false (fun h => h h0))
    clear h0
    go_enter Tryz.func103, Tryz.ntmps103
    go_wp2_with (go_at_call 104; refine HB.out.mono ?_; rintro e w' ⟨⟨r, rfl⟩, q, rfl⟩)
    go_ret3
    exact ⟨⟨_, by rw [A1.out, A2.out]; rfl⟩, (Kept.refl _ _).drewN _⟩
  · obtain ⟨n, hn⟩ : ∃ n, runeW s i = n := ⟨_, rfl⟩
    rw [hn] at HB
    have A1 := Lib.hid (show stepW s i = n by unfold stepW; rw [if_neg h0, hn])
    have A2 := Lib.hid (show decide (runeW s i ≠ 0) = true from decide_eq_true h0)
    have hnb : ((n : Int) == 0) = false := beq_eq_false_iff_ne.2 (by omega)
    clear h0 hn
    go_enter Tryz.func103, Tryz.ntmps103
    go_wp2_with (go_at_call 104; refine HB.out.mono ?_; rintro e w' ⟨⟨r, rfl⟩, q, rfl⟩)
    go_ret3
    exact ⟨⟨r, by rw [A1.out, A2.out]; rfl⟩, (Kept.refl _ _).drewN _⟩
namespace Gl
/-- a piece as it stands in cells -/
structure Pc where
  at_ : Int
  r : Int
  n : Int
  ok : Bool
def pcE : Enc Pc := ⟨4, fun p => [.int .i64 p.at_, .int .i32 p.r, .int .i64 p.n, .bool p.ok], fun _ => rfl, by decide, fun p u hu => by
  simp at hu
  rcases hu with rfl | rfl | rfl | rfl <;> rfl⟩
def pcOf (s : ByteArray) (j : Nat) : Int × Bool := ((j : Int), decide (runeW s j ≠ 0))
def Pc.say (p : Pc) : Int × Bool := (p.at_, p.ok)
end Gl
theorem info_pc : (Tryz.prog.info? 146).map (fun i => (i.zero, i.size, i.bytes)) = some (some (.agg #[.int .i64 0, .int .i32 0, .int .i64 0, .bool false]), 4, 32) := by kernel_rfl
theorem lit_pc (w : World) (p : Pc) : SlAt pcE (w.alloc (.cells #[.int .i64 p.at_, .int .i32 p.r, .int .i64 p.n, .bool p.ok] 146)) (.slice (some ⟨w.heap.size, 0, none⟩) 1 1) [p] := SlAt.lit (E := pcE) [p] _ rfl (by show 1 ≤ maxLen; decide)
set_option maxRecDepth 100000 in
set_option maxHeartbeats 4000000 in
theorem rpieces_any {s : ByteArray} (hs : s.size ≤ 1000000) (w : World) : Calls Tryz.prog 101 #[.string s] w fun e w' => ∃ v, e = .returned v ∧ ∃ L, w'.ownsRow w.heap.size 146 4 v L.length (pcE.flat L) ∧ L.map Pc.say = (pieces s 0).map (pcOf s) ∧ Kept (fun _ => False) w w' := by
  have hcl := countR_le s
  go_enter Tryz.func101, Tryz.ntmps101
  go_wp2_with fail
  go_loopw [3, 4] (fun lv iv wr => ∃ (i : Nat) (L : List Pc), iv = .int .i64 i ∧ i ≤ s.size ∧ wr.ownsRow w.heap.size 146 4 lv L.length (pcE.flat L) ∧ L.map Pc.say ++ (pieces s i).map (pcOf s) = (pieces s 0).map (pcOf s) ∧ Kept (fun _ => False) w wr) (fun _ iv _ => s.size - (intOf iv).toNat)
  case atStart => exact ⟨0, [], rfl, Nat.zero_le _, World.ownsRow_nil _ _ _ _, rfl, Kept.refl _ _⟩
  case round =>
    obtain ⟨i, L, rfl, hi, ho, hp, hk⟩ := hrel
    have HP := Lib.hid hp
    have HO := Lib.hid ho
    have KW := Lib.hid hk
    have hi0 : (0 : Int) ≤ i := by omega
    have hLl : L.length ≤ 1000000 := by
      have h1 := congrArg List.length hp
      rw [List.length_append, List.length_map, List.length_map, List.length_map] at h1
      unfold countR at hcl
      omega
    have HLL := Lib.hid hLl
    clear hp ho hk hLl
    by_cases hlt : i < s.size
    case neg =>
      have hltI : ¬ (i : Int) < s.size := by omega
      have HE := Lib.hid (pieces_end hlt)
      clear hlt
      go_wp2_with fail
      go_ret
      exact ⟨_, rfl, L, HO.out, by have := HP.out; rw [HE.out, List.map_nil, List.append_nil] at this; exact this, KW.out⟩
    case pos =>
      have hltI : (i : Int) < s.size := by omega
      have hin := stepW_in hlt
      have hsp := stepW_pos s i
      have HN := Lib.hid (pieces_next hlt)
      have HD := Lib.hid (fun w' => rdecode_any hs hlt w')
      obtain ⟨st, hst⟩ : ∃ n, stepW s i = n := ⟨_, rfl⟩
      obtain ⟨b, hb⟩ : ∃ b, decide (runeW s i ≠ 0) = b := ⟨_, rfl⟩
      obtain ⟨m, hm⟩ : ∃ m, i + st = m := ⟨_, rfl⟩
      have hw : IntKind.i64.wrap ((i : Int) + (st : Int)) = (m : Int) := by rw [IntKind.wrap_i64]; omega
      have PO := Lib.hid (show pcOf s i = ((i : Int), b) by unfold pcOf; rw [hb])
      rw [hst] at hin hsp
      rw [hst] at HD HN
      rw [hb] at HD
      have HM := Lib.hid hm
      have HIN := Lib.hid hin
      have HSP := Lib.hid hsp
      clear hb hst hm hin hsp hcl
      go_upto_region 5 with (go_at_call 103; refine (HD.out _).mono ?_; rintro e w1 ⟨⟨r, rfl⟩, hk1⟩)
      have LD := Lib.hid (lit_pc w1 ⟨i, r, st, b⟩)
      have k2 : Kept (fun _ => False) w1 (w1.alloc (.cells #[.int .i64 i, .int .i32 r, .int .i64 st, .bool b] 146)) := (Kept.refl _ _).alloc _
      have O2 := Lib.hid (owns_keep (owns_keep HO.out hk1 (fun _ _ h => h)) k2 (fun _ _ h => h))
      have K2 := Lib.hid ((KW.out.trans hk1 (fun _ _ h => h)).trans k2 (fun _ _ h => h))
      clear hk1 k2
      go_wp2_with (at_builtin; refine wpList_append_row pcE rfl (.tmp 19) (.tmp 25) 141 rfl w.heap.size 146 _ 32 Tryz.underlying141 info_pc rfl rfl rfl O2.out LD.out (by have := HLL.out; show L.length + 1 ≤ maxLen; unfold maxLen; omega) (by have := HLL.out; show (L.length + 1) * 32 ≤ 140737488355328; omega) K2.out.size ?_; intro v3 w3 ho3 hk3)
      go_roundw
      case rel =>
        refine ⟨m, L ++ [(⟨i, r, st, b⟩ : Pc)], rfl, by have := HIN.out; have := HM.out; omega, by exact ho3, ?_, K2.out.over hk3 (fun x hx => owns_new O2.out x hx)⟩
        have h1 := HP.out
        rw [HN.out, List.map_cons, PO.out, HM.out] at h1
        rw [List.map_append, List.append_assoc]
        exact h1
      case measure => have := HM.out; have := HSP.out; simp [intOf]; omega
theorem bad_step {s : ByteArray} {L : List Pc} {P : List Nat} (h : L.map Pc.say = P.map (pcOf s)) : (L.find? fun p => !p.ok).map (·.at_) = (P.find? fun j => decide (runeW s j = 0)).map (fun j => (j : Int)) := by
  induction P generalizing L with
  | nil =>
    obtain rfl : L = [] := by simpa using h
    rfl
  | cons j P ih =>
    cases L with
    | nil => simp at h
    | cons p L =>
      rw [List.map_cons, List.map_cons] at h
      injection h with h1 h2
      have e1 : p.at_ = (pcOf s j).1 := congrArg Prod.fst h1
      have e2 : p.ok = (pcOf s j).2 := congrArg Prod.snd h1
      unfold pcOf at e1 e2
      simp only at e1 e2
      by_cases hz : runeW s j = 0
      · have e3 : p.ok = false := by rw [e2]; exact decide_eq_false (fun h => h hz)
        rw [List.find?_cons_of_pos (by simp [e3]), List.find?_cons_of_pos (by simpa using hz)]
        simp [e1]
      · have e3 : p.ok = true := by rw [e2]; exact decide_eq_true hz
        rw [List.find?_cons_of_neg (by simp [e3]), List.find?_cons_of_neg (by simpa using hz)]
        exact ih h2
/-- where the first bad one is -/
def badL (L : List Pc) : Int := match L.find? (fun p => !p.ok) with
  | some p => p.at_
  | none => -1
theorem badL_eq {s : ByteArray} {L : List Pc} (h : L.map Pc.say = (pieces s 0).map (pcOf s)) : badL L = badFrom s 0 := by
  have h1 := bad_step h
  unfold badL badFrom
  cases h2 : L.find? fun p => !p.ok with
  | none =>
    rw [h2] at h1
    cases h3 : (pieces s 0).find? fun j => decide (runeW s j = 0) with
    | none => rfl
    | some j => rw [h3] at h1; cases h1
  | some p =>
    rw [h2] at h1
    cases h3 : (pieces s 0).find? fun j => decide (runeW s j = 0) with
    | none => rw [h3] at h1; cases h1
    | some j =>
      rw [h3] at h1
      have : p.at_ = j := by simpa using h1
      exact this
set_option maxRecDepth 100000 in
set_option maxHeartbeats 2000000 in
theorem rbadAt_any {s : ByteArray} (hs : s.size ≤ 1000000) (w : World) : Calls Tryz.prog 100 #[.string s] w fun e w' => e = .returned (.int .i64 (badFrom s 0)) ∧ Kept (fun _ => False) w w' := by
  have HPC := Lib.hid (rpieces_any hs w)
  have hcl := countR_le s
  unfold countR at hcl
  go_enter Tryz.func100, Tryz.ntmps100
  go_upto_region 2 with (go_at_call 101; refine HPC.out.mono ?_; rintro e w1 ⟨v, rfl, L, ho, hp, hk⟩)
  have hLl : L.length ≤ 1000000 := by
    have h1 := congrArg List.length hp
    rw [List.length_map, List.length_map] at h1
    omega
  have BL := Lib.hid (badL_eq hp)
  obtain ⟨a, c, rfl⟩ := owns_sl ho
  have HO := Lib.hid ho
  have KW := Lib.hid hk
  clear hp ho hk hcl HPC hs
  generalize hm : L.length = m at *
  have HM := Lib.hid hm
  clear hm
  go_wp2_with fail
  go_loopw [4] (fun iv wr => ∃ k : Nat, iv = .int .i64 k ∧ k ≤ m ∧ badL (L.drop k) = badL L ∧ wr = w1) (fun iv _ => m - (intOf iv).toNat)
  case atStart => exact ⟨0, rfl, Nat.zero_le _, rfl, rfl⟩
  case round =>
    obtain ⟨k, rfl, hk, hb, rfl⟩ := hrel
    have hk0 : (0 : Int) ≤ k := by omega
    have HB := Lib.hid hb
    clear hb
    by_cases hlt : k < m
    case neg =>
      have hltI : ¬ (k : Int) < m := by omega
      have ANS := Lib.hid (show badFrom s 0 = -1 by rw [← BL.out, ← HB.out, List.drop_eq_nil_of_le (by rw [HM.out]; omega)]; rfl)
      go_wp2_with fail
      go_ret
      exact ⟨by rw [ANS.out]; rfl, KW.out⟩
    case pos =>
      have hltI : (k : Int) < m := by omega
      obtain ⟨_, ⟨_, hno⟩ | ⟨g, cap, hv, _, hO⟩⟩ := own_of (E := pcE) HO.out
      · have h1 := HM.out
        rw [hno] at h1; simp at h1; omega
      injection hv with e1 _ e2
      subst e1 e2
      have hkl : k < L.length := by rw [HM.out]; exact hlt
      obtain ⟨x, hx⟩ : ∃ x, L[k]? = some x := ⟨_, List.getElem?_eq_getElem hkl⟩
      have hd : L.drop k = x :: L.drop (k + 1) := by
        rw [List.drop_eq_getElem_cons hkl]
        congr 1
        rw [List.getElem?_eq_getElem hkl] at hx
        injection hx
      have c0 : wr.cell? ⟨g, k * 4 + 0, none⟩ = some (.int .i64 x.at_) := hO.cell hx (j := 0) rfl
      have c3 : wr.cell? ⟨g, k * 4 + 3, none⟩ = some (.bool x.ok) := hO.cell hx (j := 3) rfl
      rw [Nat.add_zero] at c0
      obtain ⟨x0, x1, x2, xo⟩ := x
      have HDR := Lib.hid hd
      clear hd hx hO hkl
      simp only at c0 c3
      cases xo
      · have ANS := Lib.hid (show badFrom s 0 = x0 by rw [← BL.out, ← HB.out, HDR.out]; rfl)
        go_wp2_with fail
        go_ret
        exact ⟨by rw [ANS.out]; rfl, KW.out⟩
      · have HB2 := Lib.hid (show badL (L.drop (k + 1)) = badL L by rw [← HB.out, HDR.out]; rfl)
        go_wp2_with fail
        go_roundw
        case rel => exact ⟨k + 1, by go_num, by omega, HB2.out, trivial⟩
        case measure => simp [intOf] <;> omega
set_option maxRecDepth 100000 in
theorem rgood_any {s : ByteArray} (hs : s.size ≤ 1000000) (w : World) : Calls Tryz.prog 90 #[.string s] w fun e w' => e = .returned (.bool (decide (badFrom s 0 < 0))) ∧ Kept (fun _ => False) w w' := by
  have HB := Lib.hid (rbadAt_any hs w)
  clear hs
  generalize badFrom s 0 = n at *
  go_enter Tryz.func90, Tryz.ntmps90
  go_wp2_with (go_at_call 100; refine HB.out.mono ?_; rintro e w1 ⟨rfl, hk⟩)
  go_ret
  exact ⟨rfl, hk⟩
set_option maxRecDepth 100000 in
theorem rcount_any {s : ByteArray} (hs : s.size ≤ 1000000) (w : World) : Calls Tryz.prog 91 #[.string s] w fun e w' => e = .returned (.int .i64 (countR s)) ∧ Kept (fun _ => False) w w' := by
  have HP := Lib.hid (rpieces_any hs w)
  clear hs
  go_enter Tryz.func91, Tryz.ntmps91
  go_wp2_with (go_at_call 101; refine HP.out.mono ?_; rintro e w1 ⟨v, rfl, L, ho, hp, hk⟩; obtain ⟨a, c, rfl⟩ := owns_sl ho)
  go_ret
  have hl : L.length = countR s := by
    have h1 := congrArg List.length hp
    rw [List.length_map, List.length_map] at h1
    exact h1
  exact ⟨by rw [← hl]; rfl, hk⟩
end Go.Proofs.YtaaeomapbigfgaaGreat
namespace Go.Proofs.YtaaeomapbigfgaaGreat.St
open Go.RowKit

theorem rcompare_core (at_ as_ bt bs : Int) (w : World) : Calls Tryz.prog 94 #[.agg #[.int .i64 at_, .int .i64 as_], .agg #[.int .i64 bt, .int .i64 bs]] w fun e w' => e = .returned (.int .i64 (ID.cmp ⟨at_, as_⟩ ⟨bt, bs⟩)) ∧ Grew w w' := by
  have hg := Grew.alloc (Grew.alloc (Grew.refl w) (.cells #[.int .i64 at_, .int .i64 as_] 39)) (.cells #[.int .i64 bt, .int .i64 bs] 39)
  have hz : ∀ {v : Int}, ID.cmp ⟨at_, as_⟩ ⟨bt, bs⟩ = v → Hid (ID.cmp ⟨at_, as_⟩ ⟨bt, bs⟩ = v) := fun h => h
  have G := Lib.hid hg
  clear hg
  by_cases h1 : at_ < bt
  · rw [show ID.cmp ⟨at_, as_⟩ ⟨bt, bs⟩ = -1 by rw [cmp_eq, if_pos (.inl h1)]]
    have e1 : (at_ == bt) = false := by simp; omega
    go_enter Tryz.func94, Tryz.ntmps94
    go_wp2_with fail
    go_ret
    exact ⟨rfl, G.out⟩
  · by_cases h2 : bt < at_
    · rw [show ID.cmp ⟨at_, as_⟩ ⟨bt, bs⟩ = 1 by rw [cmp_eq, if_neg (by unfold ID.lt; simp only; omega), if_pos (.inl h2)]]
      have e1 : (at_ == bt) = false := by simp; omega
      go_enter Tryz.func94, Tryz.ntmps94
      go_wp2_with fail
      go_ret
      exact ⟨rfl, G.out⟩
    · obtain rfl : at_ = bt := by omega
      by_cases h3 : as_ < bs
      · rw [show ID.cmp ⟨at_, as_⟩ ⟨at_, bs⟩ = -1 by rw [cmp_eq, if_pos (.inr ⟨rfl, h3⟩)]]
        have e1 : (as_ == bs) = false := by simp; omega
        go_enter Tryz.func94, Tryz.ntmps94
        go_wp2_with fail
        go_ret
        exact ⟨rfl, G.out⟩
      · by_cases h4 : bs < as_
        · rw [show ID.cmp ⟨at_, as_⟩ ⟨at_, bs⟩ = 1 by rw [cmp_eq, if_neg (by unfold ID.lt; simp only; omega), if_pos (.inr ⟨rfl, h4⟩)]]
          have e1 : (as_ == bs) = false := by simp; omega
          go_enter Tryz.func94, Tryz.ntmps94
          go_wp2_with fail
          go_ret
          exact ⟨rfl, G.out⟩
        · obtain rfl : as_ = bs := by omega
          rw [show ID.cmp ⟨at_, as_⟩ ⟨at_, as_⟩ = 0 from cmp_zero.2 rfl]
          go_enter Tryz.func94, Tryz.ntmps94
          go_wp2_with fail
          go_ret
          exact ⟨rfl, G.out⟩
theorem rcompare_any (a b : ID) (w : World) : Calls Tryz.prog 94 #[idV a, idV b] w fun e w' => e = .returned (.int .i64 (a.cmp b)) ∧ Grew w w' := rcompare_core a.t a.s b.t b.s w
theorem rafter_core (t s n : Int) (hn : -9223372036854775808 ≤ n) (hn2 : n ≤ 9223372036854775807) (w : World) : Calls Tryz.prog 92 #[.agg #[.int .i64 t, .int .i64 s], .int .i64 n] w fun e w' => e = .returned (idV (ID.after ⟨t, s⟩ n)) ∧ Grew w w' := by
  have hg := Grew.alloc (Grew.alloc (Grew.refl w) (.cells #[.int .i64 t, .int .i64 s] 39)) (.cells #[.int .i64 0, .int .i64 0] 39)
  have hb0 := Blk.alloc (Blk.new w 39 #[.int .i64 t, .int .i64 s]) (.cells #[.int .i64 0, .int .i64 0] 39)
  have hb1 := Blk.new (w.alloc (.cells #[.int .i64 t, .int .i64 s] 39)) 39 #[.int .i64 0, .int .i64 0]
  rw [World.size_alloc] at hb1
  have hc := isid_core t s ((w.alloc (.cells #[.int .i64 t, .int .i64 s] 39)).alloc (.cells #[.int .i64 0, .int .i64 0] 39))
  have H0 := Lib.hid hb0
  have H1 := Lib.hid hb1
  clear hb0 hb1
  cases hb : isB ⟨t, s⟩
  · have e : ID.after ⟨t, s⟩ n = ID.zero := by unfold ID.after; rw [if_neg]; intro h; simp [isB, h.1] at hb
    rw [e]
    rw [hb] at hc
    clear hb e
    go_enter Tryz.func92, Tryz.ntmps92
    go_wp2_with fail
    refine hc.mono ?_
    rintro e w' ⟨rfl, hg2⟩
    have hb1 := hg2.box H1.out
    have c0 : _ = some (Value.int .i64 0) := hb1.cell' (i := 0) rfl
    have c1 : _ = some (Value.int .i64 0) := hb1.cell' (i := 1) rfl
    have f0 := hb1.frozen 0
    have f1 := hb1.frozen 1
    have G := Lib.hid (hg.trans hg2)
    clear hg hg2 hb1 hc
    go_wp2_with fail
    refine bodyPost_ret (v := .agg #[.int .i64 0, .int .i64 0]) (by simp [results, Tryz.results92, go_sem, c0, c1]) rfl ⟨rfl, (G.out.setCell (by simp) _).setCell (by simp) _⟩
  · have hI := isB_true hb
    unfold ID.Is at hI
    obtain ⟨i1, i2, i3, i4⟩ := hI
    simp only at i1 i2 i3 i4
    have hIs := Lib.hid (isB_true hb)
    rw [hb] at hc
    clear hb
    by_cases hx : 0 ≤ n ∧ n ≤ 2147483647 - t
    · obtain ⟨x1, x2⟩ := hx
      have e : ID.after ⟨t, s⟩ n = ⟨t + n, s⟩ := by unfold ID.after; rw [if_pos ⟨hIs.out, x1, x2⟩]
      rw [e]
      clear e
      go_enter Tryz.func92, Tryz.ntmps92
      go_wp2_with fail
      refine hc.mono ?_
      rintro e w' ⟨rfl, hg2⟩
      have hb0 := hg2.box H0.out
      have hb1 := hg2.box H1.out
      have d0 : _ = some (Value.int .i64 t) := hb0.cell' (i := 0) rfl
      have d1 : _ = some (Value.int .i64 s) := hb0.cell' (i := 1) rfl
      have e0 := hb0.frozen 0
      have e1 := hb0.frozen 1
      have c0 : _ = some (Value.int .i64 0) := hb1.cell' (i := 0) rfl
      have c1 : _ = some (Value.int .i64 0) := hb1.cell' (i := 1) rfl
      have f0 := hb1.frozen 0
      have f1 := hb1.frozen 1
      have G := Lib.hid (hg.trans hg2)
      clear hg hg2 hb1 hb0 hc
      go_wp2_with fail
      refine bodyPost_ret (v := .agg #[.int .i64 (t + n), .int .i64 s]) (by simp [results, Tryz.results92, go_sem, c0, c1]) rfl ⟨rfl, (G.out.setCell (by simp) _).setCell (by simp) _⟩
    · have e : ID.after ⟨t, s⟩ n = ID.zero := by unfold ID.after; rw [if_neg]; intro h; exact hx ⟨h.2.1, h.2.2⟩
      rw [e]
      clear e
      rcases (show n < 0 ∨ (0 ≤ n ∧ 2147483647 - t < n) by omega) with x1 | ⟨x1, x2⟩
      all_goals
        go_enter Tryz.func92, Tryz.ntmps92
        go_wp2_with fail
        refine hc.mono ?_
        rintro e w' ⟨rfl, hg2⟩
        have hb0 := hg2.box H0.out
        have hb1 := hg2.box H1.out
        have d0 : _ = some (Value.int .i64 t) := hb0.cell' (i := 0) rfl
        have c0 : _ = some (Value.int .i64 0) := hb1.cell' (i := 0) rfl
        have c1 : _ = some (Value.int .i64 0) := hb1.cell' (i := 1) rfl
        have f0 := hb1.frozen 0
        have f1 := hb1.frozen 1
        have G := Lib.hid (hg.trans hg2)
        clear hg hg2 hb1 hb0 hc
        go_wp2_with fail
        refine bodyPost_ret (v := .agg #[.int .i64 0, .int .i64 0]) (by simp [results, Tryz.results92, go_sem, c0, c1]) rfl ⟨rfl, (G.out.setCell (by simp) _).setCell (by simp) _⟩
theorem rafter_any (a : ID) (n : Int) (hn : -9223372036854775808 ≤ n) (hn2 : n ≤ 9223372036854775807) (w : World) : Calls Tryz.prog 92 #[idV a, .int .i64 n] w fun e w' => e = .returned (idV (a.after n)) ∧ Grew w w' := rafter_core a.t a.s n hn hn2 w

theorem last_core (t s c : Int) (hc1 : -9223372036854775808 ≤ c) (hc2 : c ≤ 9223372036854775807) (w : World) : Calls Tryz.prog 139 #[.agg #[.int .i64 t, .int .i64 s, .int .i64 c]] w fun e w' => e = .returned (idV (if c < 1 then ID.zero else ID.after ⟨t, s⟩ (c - 1))) ∧ Grew w w' := by
  have hg := Grew.alloc (Grew.alloc (Grew.refl w) (.cells #[.int .i64 t, .int .i64 s, .int .i64 c] 77)) (.cells #[.int .i64 0, .int .i64 0] 39)
  have hb1 := Blk.new (w.alloc (.cells #[.int .i64 t, .int .i64 s, .int .i64 c] 77)) 39 #[.int .i64 0, .int .i64 0]
  rw [World.size_alloc] at hb1
  by_cases h : c < 1
  · rw [if_pos h]
    have G := Lib.hid hg
    clear hg hb1
    go_enter Tryz.func139, Tryz.ntmps139
    go_wp2_with fail
    exact bodyPost_ret (v := .agg #[.int .i64 0, .int .i64 0]) (by simp [results, Tryz.results139, go_sem]) rfl ⟨rfl, G.out⟩
  · rw [if_neg h]
    have ha := after_core t s (c - 1) (by omega) (by omega) ((w.alloc (.cells #[.int .i64 t, .int .i64 s, .int .i64 c] 77)).alloc (.cells #[.int .i64 0, .int .i64 0] 39))
    generalize ID.after ⟨t, s⟩ (c - 1) = a at ha ⊢
    obtain ⟨x, y⟩ := a
    have G0 := Lib.hid hg
    have H1 := Lib.hid hb1
    clear hg hb1
    go_enter Tryz.func139, Tryz.ntmps139
    go_wp2_with fail
    refine ha.mono ?_
    rintro e w' ⟨rfl, hg2⟩
    have hb1 := hg2.box H1.out
    have c0 : _ = some (Value.int .i64 0) := hb1.cell' (i := 0) rfl
    have c1 : _ = some (Value.int .i64 0) := hb1.cell' (i := 1) rfl
    have f0 := hb1.frozen 0
    have f1 := hb1.frozen 1
    have G := Lib.hid (G0.out.trans hg2)
    clear hg2 hb1
    unfold idV
    go_wp2_with fail
    refine bodyPost_ret (v := .agg #[.int .i64 x, .int .i64 y]) (by simp [results, Tryz.results139, go_sem, c0, c1]) rfl ⟨rfl, (G.out.setCell (by simp) _).setCell (by simp) _⟩
end Go.Proofs.YtaaeomapbigfgaaGreat.St
namespace Go.Proofs.YtaaeomapbigfgaaGreat.St

def Run.Ok (r : Run) : Prop := 1 ≤ r.c ∧ r.id.Is ∧ r.c - 1 ≤ 2147483647 - r.id.t
instance Run.decOk (r : Run) : Decidable r.Ok := by unfold Run.Ok; infer_instance
def Run.last (r : Run) : ID := if r.c < 1 then ID.zero else r.id.after (r.c - 1)
theorem last_ok {r : Run} (h : r.Ok) : r.last = ⟨r.id.t + r.c - 1, r.id.s⟩ := by
  unfold Run.Ok at h
  unfold Run.last ID.after
  rw [if_neg (by omega), if_pos ⟨h.2.1, by omega, h.2.2⟩, ID.ext_iff]
  exact ⟨by show r.id.t + (r.c - 1) = r.id.t + r.c - 1; omega, rfl⟩
theorem last_zero {r : Run} : r.last = ID.zero ↔ ¬ r.Ok := by
  constructor
  · intro h hok
    rw [last_ok hok] at h
    have h1 := congrArg ID.s h
    have h2 := hok.2.1
    unfold ID.Is at h2
    simp only [ID.zero] at h1
    omega
  · intro h
    unfold Run.last
    split
    · rfl
    · rename_i hc
      unfold ID.after
      rw [if_neg]
      rintro ⟨h1, h2, h3⟩
      exact h ⟨by omega, h1, h3⟩
/-- why a run may not stand behind these -/
def why (pre : List Run) (x : Run) : Int :=
  if ¬ x.Ok then 1 else if ∃ p, pre.getLast? = some p ∧ ¬ p.id.lt x.id then 9 else if ∃ p ∈ pre, p.id.s = x.id.s ∧ x.id.t ≤ p.id.t + p.c then 6 else 0
def Good (l : List Run) : Prop := ∀ (n : Nat) (x : Run), l[n]? = some x → why (l.take n) x = 0
def CheckIs (l : List Run) (e : Int) : Prop := (e = 0 ∧ Good l) ∨ ∃ (n : Nat) (x : Run), l[n]? = some x ∧ Good (l.take n) ∧ why (l.take n) x = e ∧ e ≠ 0
theorem good_take {l : List Run} {n : Nat} : Good (l.take n) ↔ ∀ (j : Nat) (x : Run), j < n → l[j]? = some x → why (l.take j) x = 0 := by
  unfold Good
  constructor
  · intro h j x hj hx
    have := h j x (by rw [List.getElem?_take, if_pos hj]; exact hx)
    rwa [List.take_take, Nat.min_eq_left (Nat.le_of_lt hj)] at this
  · intro h j x hx
    rw [List.getElem?_take] at hx
    split at hx
    · rename_i hj
      rw [List.take_take, Nat.min_eq_left (Nat.le_of_lt hj)]
      exact h j x hj hx
    · cases hx
theorem good_all {l : List Run} (h : Good l) (n : Nat) : Good (l.take n) := good_take.2 fun j x _ hx => h j x hx
theorem good_snoc {l : List Run} {x : Run} : Good (l ++ [x]) ↔ Good l ∧ why l x = 0 := by
  constructor
  · intro h
    constructor
    · have := good_all h l.length
      rwa [List.take_left] at this
    · have := h l.length x (by simp)
      rwa [List.take_left] at this
  · rintro ⟨h1, h2⟩ n y hy
    by_cases hn : n < l.length
    · rw [List.getElem?_append_left hn] at hy
      rw [List.take_append_of_le_length (by omega)]
      exact h1 n y hy
    · have hl := (List.getElem?_eq_some_iff.1 hy).1
      simp at hl
      obtain rfl : n = l.length := by omega
      simp at hy
      subst hy
      rw [List.take_left]
      exact h2
theorem CheckIs.unique {l : List Run} {e f : Int} (h : CheckIs l e) (h' : CheckIs l f) : e = f := by
  rcases h with ⟨rfl, h⟩ | ⟨n, x, h1, h2, h3, h4⟩ <;> rcases h' with ⟨rfl, h'⟩ | ⟨m, y, g1, g2, g3, g4⟩
  · rfl
  · exact absurd (g3.symm.trans (h m y g1)) g4
  · exact absurd (h3.symm.trans (h' n x h1)) h4
  · rcases Nat.lt_trichotomy n m with hl | rfl | hl
    · exact absurd (h3.symm.trans (good_take.1 g2 n x hl h1)) h4
    · rw [h1] at g1; cases g1; exact h3.symm.trans g3
    · exact absurd (g3.symm.trans (good_take.1 h2 m y hl g1)) g4
theorem CheckIs.range {l : List Run} {e : Int} (h : CheckIs l e) : e = 0 ∨ e = 1 ∨ e = 9 ∨ e = 6 := by
  rcases h with ⟨rfl, _⟩ | ⟨n, x, _, _, h, _⟩
  · exact .inl rfl
  · unfold why at h
    split at h
    · exact .inr (.inl h.symm)
    · split at h
      · exact .inr (.inr (.inl h.symm))
      · split at h
        · exact .inr (.inr (.inr h.symm))
        · exact .inl h.symm
theorem why_ok {pre : List Run} {x : Run} (h : why pre x = 0) : x.Ok ∧ (∀ p, pre.getLast? = some p → p.id.lt x.id) ∧ ∀ p ∈ pre, p.id.s = x.id.s → p.id.t + p.c < x.id.t := by
  unfold why at h
  split at h
  · cases h
  · split at h
    · cases h
    · split at h
      · cases h
      · rename_i h1 h2 h3
        refine ⟨by simpa using h1, fun p hp => ?_, fun p hp hs => ?_⟩
        · by_cases hl : p.id.lt x.id
          · exact hl
          · exact absurd ⟨p, hp, hl⟩ h2
        · by_cases hl : p.id.t + p.c < x.id.t
          · exact hl
          · exact absurd ⟨p, hp, hs, by omega⟩ h3
theorem snocR {P : List Run → Prop} (h0 : P []) (h1 : ∀ l x, P l → P (l ++ [x])) (l : List Run) : P l := by
  have : ∀ n (l : List Run), l.length = n → P l := fun n => by
    induction n with
    | zero => intro l hl; rw [List.length_eq_zero_iff.1 hl]; exact h0
    | succ n ih =>
      intro l hl
      have hne : l ≠ [] := by rintro rfl; simp at hl
      rw [← List.dropLast_concat_getLast hne]
      exact h1 _ _ (ih _ (by simp [hl]))
  exact this _ l rfl
theorem Good.ok {l : List Run} (h : Good l) : ∀ r ∈ l, r.Ok := fun r hr => by
  obtain ⟨n, hn⟩ := List.getElem?_of_mem hr
  exact (why_ok (h n r hn)).1
/-- the last one of a site -/
def lastOf (l : List Run) (s : Int) : Option Run := (l.filter fun r => decide (r.id.s = s)).getLast?
theorem lastOf_snoc (l : List Run) (x : Run) (s : Int) : lastOf (l ++ [x]) s = if x.id.s = s then some x else lastOf l s := by
  unfold lastOf
  rw [List.filter_append]
  by_cases h : x.id.s = s
  · rw [if_pos h]; simp [h]
  · rw [if_neg h]; simp [h]
theorem lastOf_mem {l : List Run} {s : Int} {r : Run} (h : lastOf l s = some r) : r ∈ l ∧ r.id.s = s := by
  have := List.mem_of_getLast? h
  rw [List.mem_filter] at this
  exact ⟨this.1, by simpa using this.2⟩
theorem lastOf_none {l : List Run} {s : Int} (h : lastOf l s = none) : ∀ p ∈ l, p.id.s ≠ s := by
  unfold lastOf at h
  rw [List.getLast?_eq_none_iff, List.filter_eq_nil_iff] at h
  intro p hp e
  exact h p hp (by simpa using e)
theorem lastOf_max {l : List Run} (hg : Good l) {s : Int} {r : Run} (h : lastOf l s = some r) : ∀ p ∈ l, p.id.s = s → p.id.t + p.c ≤ r.id.t + r.c := by
  induction l using snocR generalizing r with
  | h0 => intro p hp; cases hp
  | h1 l x ih =>
    obtain ⟨g1, g2⟩ := good_snoc.1 hg
    obtain ⟨w1, w2, w3⟩ := why_ok g2
    rw [lastOf_snoc] at h
    intro p hp hs
    split at h
    · rename_i hx
      cases h
      rcases List.mem_append.1 hp with hp | hp
      · have := w3 p hp (hs.trans hx.symm)
        have := w1.1
        omega
      · simp only [List.mem_cons, List.not_mem_nil, or_false] at hp
        subst hp; exact Int.le_refl _
    · rename_i hx
      rcases List.mem_append.1 hp with hp | hp
      · exact ih g1 h p hp hs
      · simp only [List.mem_cons, List.not_mem_nil, or_false] at hp
        subst hp; exact absurd hs hx
theorem form_iff {l : List Run} (hg : Good l) (x : Run) : (∃ p ∈ l, p.id.s = x.id.s ∧ x.id.t ≤ p.id.t + p.c) ↔ ∃ r, lastOf l x.id.s = some r ∧ x.id.t ≤ r.id.t + r.c := by
  constructor
  · rintro ⟨p, hp, hs, ht⟩
    cases h : lastOf l x.id.s with
    | none => exact absurd hs (lastOf_none h p hp)
    | some r => exact ⟨r, rfl, by have := lastOf_max hg h p hp hs; omega⟩
  · rintro ⟨r, hr, ht⟩
    exact ⟨r, (lastOf_mem hr).1, (lastOf_mem hr).2, ht⟩

/-- has a run this identifier? -/
def Run.has (r : Run) (x : ID) : Bool := decide (r.id.s = x.s ∧ r.id.t ≤ x.t ∧ x.t ≤ r.last.t)
def HasIs (l : List Run) (x : ID) (b : Bool) : Prop := b = true ↔ Good l ∧ ∃ r ∈ l, r.id.s = x.s ∧ r.id.t ≤ x.t ∧ x.t < r.id.t + r.c
theorem HasIs.unique {l : List Run} {x : ID} {b c : Bool} (h : HasIs l x b) (h' : HasIs l x c) : b = c := by
  rw [Bool.eq_iff_iff]; exact h.trans h'.symm
theorem has_ok {r : Run} (h : r.Ok) (x : ID) : r.has x = true ↔ r.id.s = x.s ∧ r.id.t ≤ x.t ∧ x.t < r.id.t + r.c := by
  unfold Run.has
  rw [decide_eq_true_iff, last_ok h]
  simp only
  omega
theorem hasIs_bad {l : List Run} {x : ID} (h : ¬ Good l) : HasIs l x false := ⟨fun e => (nomatch e), fun e => absurd e.1 h⟩
theorem hasIs_any {l : List Run} {x : ID} (h : Good l) : HasIs l x (l.any fun r => r.has x) := by
  unfold HasIs
  rw [List.any_eq_true]
  constructor
  · rintro ⟨r, hr, hh⟩
    exact ⟨h, r, hr, (has_ok (h.ok r hr) x).1 hh⟩
  · rintro ⟨_, r, hr, hh⟩
    exact ⟨r, hr, (has_ok (h.ok r hr) x).2 hh⟩
theorem CheckIs.good {l : List Run} {e : Int} (h : CheckIs l e) : Good l ↔ e = 0 := by
  constructor
  · intro hg; exact h.unique (.inl ⟨rfl, hg⟩)
  · rintro rfl
    rcases h with ⟨_, h⟩ | ⟨n, x, _, _, _, h⟩
    · exact h
    · exact absurd rfl h
end Go.Proofs.YtaaeomapbigfgaaGreat.St
