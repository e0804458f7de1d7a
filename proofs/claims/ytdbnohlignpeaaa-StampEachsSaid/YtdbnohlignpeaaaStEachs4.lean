/- hearsaylaw6.StampEachs, walked. -/
import Derived.Test.YtdbnohlignpeaaaStEachs3
import Derived.Test.YtdbnohlignpeaaaStKnown
import Derived.Laws.EntriesVeiled
namespace Go.Proofs.Ytdbnohlignpeaaa
open Go.RowKit Go.Proofs.Ytdbnohlignpeaaa.St
namespace stampEachs
open Go.Proofs.Ytdbnohlignpeaaa.St.stampEachs
theorem en1 : ∀ args w, Sem.run Try.prog (callFunc 43 args) w = .ok (.enter 43 args) w := Go.Proofs.enters_of Try.func43 (by kernel_rfl) rfl
theorem it1_any {B : Nat} {w : World} {Bl Bw Bs Bi Bo Bn : Nat} {vl vw : Value} {G : List Run} {W : List ID} {stop : Int} (hW : W = (idsOf G).take 3000) (h : Env B w Bl Bw Bs vl vw G W stop) (hG : ∀ r ∈ G, r.Ok) (hb : G.length ≤ 1000000)
    (hbi : Blk w Bi 77 #[.func (.func 73) #[] #[.pointer (some ⟨Bl, 0, none⟩)]]) (hil : Bi < B) (ho : Blk w Bo 4 #[.bool true]) (hn : Blk w Bn 3 #[.int .i64 0]) (hB : B ≤ Bo) (hB2 : B ≤ Bn) (hne : Bo ≠ Bn) :
    Calls Try.prog 73 #[.func (.func 43) #[] #[.pointer (some ⟨Bo, 0, none⟩), .pointer (some ⟨Bn, 0, none⟩), .pointer (some ⟨Bw, 0, none⟩), .pointer (some ⟨Bi, 0, none⟩), .pointer (some ⟨Bs, 0, none⟩)], .pointer (some ⟨Bl, 0, none⟩)] w fun e w' =>
      e = .returned (.tuple #[]) ∧ Kept (fun b => b = Bo ∨ b = Bn) w w' ∧ Blk w' Bo 4 #[.bool true] ∧ Blk w' Bn 3 #[.int .i64 W.length] := by
  refine (each1_any (S := fun b => b = Bo ∨ b = Bn) (v := vl) hG hb 43 _ (fun i w' => i < 3000 ∧ Env B w' Bl Bw Bs vl vw G W stop ∧ Blk w' Bi 77 #[.func (.func 73) #[] #[.pointer (some ⟨Bl, 0, none⟩)]] ∧ Blk w' Bo 4 #[.bool true] ∧ Blk w' Bn 3 #[.int .i64 i])
    (fun w' => Blk w' Bo 4 #[.bool true] ∧ Blk w' Bn 3 #[.int .i64 W.length])
    (fun i w' hi => ⟨hi.2.1.bl.cell' rfl, hi.2.1.lr⟩) (fun i w1 w2 hi hk => ⟨hi.1, hi.2.1.keep hk (fun _ h => h.elim), hk.blk (fun h => h) hi.2.2.1, hk.blk (fun h => h) hi.2.2.2.1, hk.blk (fun h => h) hi.2.2.2.2⟩) (fun i x w1 hx hi => ?_) (fun b hb => by rcases hb with rfl | rfl; exact ho.lt; exact hn.lt) en1 ⟨by omega, h, hbi, ho, hn⟩).mono ?_
  · refine (f1_any hW hi.2.1 hG hb hi.2.2.1 hil hi.2.2.2.1 i hi.2.2.2.2 hB hB2 hne x (by rw [hW]; exact want_at hx hi.1) hi.1).mono ?_
    rintro e w2 ⟨rfl, ho2, hb2, hk2⟩
    refine ⟨_, rfl, hk2, fun hb => ?_, fun hb => ?_⟩
    · have h3 : i + 1 < 3000 := of_decide_eq_true hb
      exact ⟨h3, hi.2.1.keep hk2 (fun b hb => by rcases hb with rfl | rfl; exact hB; exact hB2), hk2.blk (fun e => by rcases e with e | e <;> omega) hi.2.2.1, ho2, hb2⟩
    · refine ⟨ho2, ?_⟩
      rw [want_full hx hi.1 (of_decide_eq_false hb), ← hW] at hb2
      exact hb2
  · rintro e w2 ⟨rfl, hk, hI | hZ⟩
    · refine ⟨rfl, hk, hI.2.2.2.1, ?_⟩
      have := hI.2.2.2.2
      rw [want_end hI.1, ← hW] at this
      exact this
    · exact ⟨rfl, hk, hZ⟩
theorem it3W {B : Nat} {w : World} {Bl Bw Bs Bn : Nat} {vl vw : Value} {G : List Run} {W : List ID} {stop : Int} (hW : W = (idsOf G).take 3000) (h : Env B w Bl Bw Bs vl vw G W stop) (hG : ∀ r ∈ G, r.Ok) (hb : G.length ≤ 1000000) (hn : Blk w Bn 3 #[.int .i64 0]) (hB : B ≤ Bn) :
    Calls Try.prog 73 #[.func (.func 45) #[] #[.pointer (some ⟨Bn, 0, none⟩), .pointer (some ⟨Bs, 0, none⟩)], .pointer (some ⟨Bl, 0, none⟩)] w fun e w' =>
      e = .returned (.tuple #[]) ∧ Kept (· = Bn) w w' ∧ ∃ m : Nat, Blk w' Bn 3 #[.int .i64 m] ∧ (m = W.length ∨ (m : Int) = stop) := by subst hW; exact it3_any h hG hb hn hB
theorem set_run5 {w : World} {t : TypeId} {g cap k : Nat} {X : List Run} {a b z : Int} (h : OwnAt runE w t g cap X) (hk : k < X.length) :
    OwnAt runE (((w.setCell ⟨g, k * 3, none⟩ (.int .i64 a)).setCell ⟨g, k * 3 + 1, none⟩ (.int .i64 b)).setCell ⟨g, k * 3 + 2, none⟩ (.int .i64 z)) t g cap (X.set k ⟨⟨a, b⟩, z⟩) := by
  obtain ⟨x, hx⟩ := get_of_lt hk
  have h1 := h.set1of3 (m := 0) (y := ⟨⟨a, x.id.s⟩, x.c⟩) hx (b := .int .i64 a) (by decide) rfl
  have h2 := h1.set1of3 (i := k) (x := ⟨⟨a, x.id.s⟩, x.c⟩) (m := 1) (y := ⟨⟨a, b⟩, x.c⟩) (by simp [hk]) (b := .int .i64 b) (by decide) rfl
  have h3 := h2.set1of3 (i := k) (x := ⟨⟨a, b⟩, x.c⟩) (m := 2) (y := ⟨⟨a, b⟩, z⟩) (by simp [hk]) (b := .int .i64 z) (by decide) rfl
  rw [List.set_set, List.set_set] at h3
  exact h3
theorem eq_func : ∀ (fn : Fn) (fs cs : Array Value) (w : World), (binOp .eql 77 (.func fn fs cs) .nilFunc).run Try.prog w = .ok (.bool false) w := fun _ _ _ _ => by kernel_rfl
set_option maxRecDepth 100000 in
set_option maxHeartbeats 16000000 in
theorem walk_core {w : World} {v : Value} {L : List Run} (h : SlAt runE w v L) (hin : ∀ r ∈ L, r.In) (stop : Int) :
    Calls Try.prog 11 #[v, .int .i64 stop] w fun e w' => e = .returned (.bool true) ∧ Kept (fun _ => False) w w' := by
  have hqf := eq_func
  obtain ⟨a, c, rfl, hac, hcm⟩ := h.sl
  have hk0 : Kept (fun _ => False) w (w.alloc (.cells #[.int .i64 stop] 3)) := (Kept.refl _ _).alloc _
  have H0 := Lib.hid (h.kept hk0)
  have S0 := Lib.hid (Blk.new w 3 #[.int .i64 stop])
  have K0 := Lib.hid hk0
  have HI := Lib.hid hin
  clear h hin hk0
  go_enter Try.func11, Try.ntmps11
  by_cases hbig : 400 < L.length
  · have hbI : (400 : Int) < L.length := by omega
    go_wp2_with fail
    refine (known_any _).mono ?_
    rintro e w1 ⟨rfl, hk⟩
    go_wp2_with fail
    go_ret
    exact ⟨rfl, K0.out.trans hk (fun _ _ h => h)⟩
  have hbI : (L.length : Int) ≤ 400 := by omega
  have hre := reach_any H0.out HI.out (by omega) 3000 (by omega)
  go_wp2_with fail
  refine hre.mono ?_
  rintro e w1 ⟨vw, rfl, how, hkw⟩
  obtain ⟨G, hG⟩ : ∃ G, G = goodL L := ⟨_, rfl⟩
  obtain ⟨W, hW⟩ : ∃ W, W = (idsOf (goodL L)).take 3000 := ⟨_, rfl⟩
  rw [← hW] at how
  rw [← hG] at hW
  have hwsl := owns_slAt (E := idE) how
  obtain ⟨wa, wc, rfl⟩ := owns_sl how
  have k12 : Kept (fun _ => False) w1 (w1.alloc (.cells #[.slice wa W.length wc] 28)) := (Kept.refl _ _).alloc _
  have W2 := Lib.hid (Blk.new w1 28 #[.slice wa W.length wc])
  have WR := Lib.hid (hwsl.kept k12)
  have WO := Lib.hid (fun b hb => (how.lt b hb).2)
  have S2 := Lib.hid (k12.blk (fun h => h) (hkw.blk (fun h => h) S0.out))
  have H2 := Lib.hid ((H0.out.kept hkw).kept k12)
  have K2 := Lib.hid ((K0.out.trans hkw (fun _ _ h => h)).trans k12 (fun _ _ h => h))
  have HG := Lib.hid hG
  have HW := Lib.hid hW
  have z01 : w.heap.size < w1.heap.size := by have := hkw.size; simp at this; omega
  clear hre how hkw hwsl k12 hG hW H0 S0 K0
  have hw2s : (w1.alloc (.cells #[.slice wa W.length wc] 28)).heap.size = w1.heap.size + 1 := by simp
  go_wp2_with (at_builtin; (refine wpList_append_row runE rfl (.tmp 19) (.tmp 20) 29 rfl (w1.heap.size + 1) 35 (.agg #[.int .i64 0, .int .i64 0, .int .i64 0]) 24 Try.underlying29 info_run rfl rfl rfl (D := []) (World.ownsRow_nil _ _ _ _) H2.out (by unfold maxLen; simp; omega) (by simp; omega) (by simp) ?_); intro v1 w3 ho1 hk1; rw [List.nil_append] at ho1; obtain ⟨ra, rc, rfl⟩ := owns_sl ho1; have K3 := Lib.hid ((Kept.refl (fun _ => False) (w1.alloc (.cells #[.slice wa W.length wc] 28))).over hk1 (fun b hb => by cases hb)); have O1 := Lib.hid ho1; clear hk1 ho1)
  have hea := each_any (owns_slAt (E := runE) O1.out) HI.out (by omega)
  refine hea.mono ?_
  rintro e w4 ⟨Bl, vl, rfl, hBl, hbl, hlr, hvl, hk4⟩
  have k24 := K3.out.trans hk4 (fun _ _ h => h)
  have k45 : Kept (fun _ => False) w4 (w4.alloc (.cells #[.func (.func 73) #[] #[.pointer (some ⟨Bl, 0, none⟩)]] 77)) := (Kept.refl _ _).alloc _
  have k25 := k24.trans k45 (fun _ _ h => h)
  have S5 := Lib.hid (k25.blk (fun h => h) S2.out)
  have W5 := Lib.hid (k25.blk (fun h => h) W2.out)
  have WR5 := Lib.hid (WR.out.kept k25)
  have L5 := Lib.hid (k45.blk (fun h => h) hbl)
  have LR5 := Lib.hid (hlr.kept k45)
  have I5 := Lib.hid (Blk.new w4 77 #[.func (.func 73) #[] #[.pointer (some ⟨Bl, 0, none⟩)]])
  have O5 := Lib.hid (owns_keep (owns_keep O1.out hk4 (fun _ _ h => h)) k45 (fun _ _ h => h))
  have K5 := Lib.hid (K2.out.trans k25 (fun _ _ h => h))
  have OL := Lib.hid (fun b hb => O1.out.lt b hb)
  have VL := Lib.hid hvl
  have z34 := hk4.size
  have zl : Bl < w4.heap.size := hbl.lt
  have x0 : _ = some (Value.func (.func 73) #[] #[.pointer (some ⟨Bl, 0, none⟩)]) := I5.out.cell' (i := 0) rfl
  have z13 : w1.heap.size + 1 ≤ w3.heap.size := by have := K3.out.size; omega
  have y0 : (w4.alloc (.cells #[.nilFunc] 77)).cell? ⟨w4.heap.size, 0, none⟩ = some .nilFunc := (Blk.new w4 77 #[.nilFunc]).cell' (i := 0) rfl
  have y1 := (Blk.new w4 77 #[.nilFunc]).frozen 0
  clear hea hbl hlr hvl hk4 k24 k45 k25 S2 W2 WR H2 K2 K3 O1
  go_wp2_with fail
  clear x0 y0 y1 hqf
  have z45 : (w4.alloc (.cells #[.func (.func 73) #[] #[.pointer (some ⟨Bl, 0, none⟩)]] 77)).heap.size = w4.heap.size + 1 := by simp
  generalize w4.alloc (.cells #[.func (.func 73) #[] #[.pointer (some ⟨Bl, 0, none⟩)]] 77) = w5 at *
  go_loopw [8] (fun iv wr => ∃ (k : Nat) (X : List Run), iv = .int .i64 k ∧ k ≤ L.length ∧ X.length = L.length ∧ wr.ownsRow (w1.heap.size + 1) 35 runE.k (.slice ra L.length rc) L.length (runE.flat X) ∧ Kept (fun b => (Value.slice ra L.length rc).ownBlock = some b) w5 wr) (fun iv _ => L.length - (intOf iv).toNat)
  case atStart => exact ⟨0, L, rfl, Nat.zero_le _, rfl, O5.out, Kept.refl _ _⟩
  case round =>
    obtain ⟨k, X, rfl, hk, hXl, ho, hkz⟩ := hrel
    have hk0 : (0 : Int) ≤ k := by omega
    have HO := Lib.hid ho
    have HKZ := Lib.hid hkz
    clear ho hkz
    by_cases hlt : k < L.length
    case pos =>
      have hltI : (k : Int) < L.length := by omega
      obtain ⟨hl, ⟨hnil, hn0⟩ | ⟨g, cap, hv, hg, hO⟩⟩ := own_of (E := runE) HO.out
      · have := congrArg List.length hn0; rw [hXl] at this; simp only [List.length_nil] at this; omega
      cases hv
      obtain ⟨y, hy⟩ := get_of_lt (show k < X.length by omega)
      obtain ⟨c0, c1, c2⟩ := St.OwnAt.run hO hy
      have f0 := hO.frozen (k * 3)
      have f1 := hO.frozen (k * 3 + 1)
      have f2 := hO.frozen (k * 3 + 2)
      have HOA := Lib.hid hO
      have HX := Lib.hid hXl
      clear hO hy hl hXl
      go_wp2_with fail
      go_roundw
      case rel =>
        have h2 := (set_run5 (k := k) (a := 5) (b := 5) (z := 5) HOA.out (by have := HX.out; omega)).owns hg
        rw [List.length_set, HX.out] at h2
        exact ⟨k + 1, _, by go_num, by omega, by rw [List.length_set]; exact HX.out, h2, ((HKZ.out.setCell (p := ⟨g, k * 3, none⟩) (fun _ => rfl) _).setCell (p := ⟨g, k * 3 + 1, none⟩) (fun _ => rfl) _).setCell (p := ⟨g, k * 3 + 2, none⟩) (fun _ => rfl) _⟩
      case measure => simp [intOf] <;> omega
    case neg =>
      have hnl : ¬ (k : Int) < L.length := by omega
      have kz := HKZ.out
      have E6 : Hid (Env wr.heap.size wr Bl w1.heap.size w.heap.size vl (.slice wa W.length wc) G W stop) := Lib.hid
        ⟨kz.blk (fun e => by have := OL.out _ e; omega) L5.out, kz.blk (fun e => by have := OL.out _ e; omega) W5.out, kz.blk (fun e => by have := OL.out _ e; omega) S5.out,
          by rw [HG.out]; exact LR5.out.keep kz (fun b hb _ e => by have := OL.out _ e; have := VL.out b hb; omega), WR5.out.keep kz (fun b hb _ e => by have := OL.out _ e; have := WO.out b hb; omega),
          by have := kz.size; omega, by have := kz.size; omega, by have := kz.size; omega, fun b hb => by have := VL.out b hb; have := kz.size; omega, fun b hb => by have := WO.out b hb; have := kz.size; omega⟩
      have I6 := Lib.hid (kz.blk (fun e => by have := OL.out _ e; omega) I5.out)
      have K6 := Lib.hid (K5.out.over kz (fun b e => by have := OL.out _ e; omega))
      have z6 : w4.heap.size < wr.heap.size := by have := kz.size; omega
      clear kz
      obtain ⟨w6, hw6⟩ : ∃ w6 : World, w6 = wr := ⟨_, rfl⟩
      subst hw6
      clear HO HKZ S5 W5 WR5 L5 LR5 I5 O5 K5 OL VL WO
      go_wp2_with fail
      go_loopw [9] (fun iv wr => ∃ n : Nat, iv = .int .i64 n ∧ n ≤ 2 ∧ Kept (fun _ => False) w6 wr) (fun iv _ => 2 - (intOf iv).toNat)
      case atStart => exact ⟨0, rfl, by omega, Kept.refl _ _⟩
      case round =>
        obtain ⟨n, rfl, hn, hkn⟩ := hrel
        have hn0 : (0 : Int) ≤ n := by omega
        have hGok : ∀ r ∈ G, r.Ok := by rw [HG.out]; exact goodL_ok L
        have hGl : G.length ≤ 1000000 := by rw [HG.out]; have := goodL_len L; omega
        have zn := hkn.size
        by_cases h2 : n < 2
        case pos =>
          have h2I : (n : Int) < 2 := by omega
          have ha : Kept (fun _ => False) wr ((wr.alloc (.cells #[.int .i64 0] 3)).alloc (.cells #[.bool true] 4)) := ((Kept.refl _ _).alloc _).alloc _
          have n7 : Blk ((wr.alloc (.cells #[.int .i64 0] 3)).alloc (.cells #[.bool true] 4)) wr.heap.size 3 #[.int .i64 0] := (Blk.new wr 3 #[.int .i64 0]).alloc _
          have o7 : Blk ((wr.alloc (.cells #[.int .i64 0] 3)).alloc (.cells #[.bool true] 4)) (wr.heap.size + 1) 4 #[.bool true] := by
            have := Blk.new (wr.alloc (.cells #[.int .i64 0] 3)) 4 #[.bool true]
            simpa using this
          have k7 := hkn.trans ha (fun _ _ h => h)
          have i7 := k7.blk (fun h => h) I6.out
          have x7 : _ = some (Value.func (.func 73) #[] #[.pointer (some ⟨Bl, 0, none⟩)]) := i7.cell' (i := 0) rfl
          have hit := it1_any HW.out (E6.out.keep k7 (fun _ h => h.elim)) hGok hGl i7 (by omega) o7 n7 (by omega) (by omega) (by omega)
          have E7 := Lib.hid (E6.out.keep k7 (fun _ h => h.elim))
          have K7 := Lib.hid k7
          clear ha n7 o7 k7 i7 hkn
          go_wp2_with fail
          refine hit.mono ?_
          rintro e w8 ⟨rfl, hk8, ho8, hn8⟩
          have E8 := E7.out.keep hk8 (fun b hb => by rcases hb with rfl | rfl <;> omega)
          have b0 : w8.cell? ⟨wr.heap.size + 1, 0, none⟩ = some (.bool true) := ho8.cell' (i := 0) rfl
          have b1 : w8.cell? ⟨wr.heap.size, 0, none⟩ = some (.int .i64 W.length) := hn8.cell' (i := 0) rfl
          have b2 : w8.cell? ⟨w1.heap.size, 0, none⟩ = some (.slice wa W.length wc) := E8.bw.cell' (i := 0) rfl
          have K8 := Lib.hid (K7.out.over hk8 (fun b hb => by rcases hb with rfl | rfl <;> omega))
          clear hit x7 hk8 ho8 hn8 E8
          go_wp2_with fail
          go_roundw
          case rel => exact ⟨n + 1, by go_num, by omega, K8.out⟩
          case measure => simp [intOf] <;> omega
        case neg =>
          have h2I : ¬ (n : Int) < 2 := by omega
          have ha : Kept (fun _ => False) wr (wr.alloc (.cells #[.int .i64 0] 3)) := (Kept.refl _ _).alloc _
          have k7 := hkn.trans ha (fun _ _ h => h)
          have i7 := k7.blk (fun h => h) I6.out
          have x7 : _ = some (Value.func (.func 73) #[] #[.pointer (some ⟨Bl, 0, none⟩)]) := i7.cell' (i := 0) rfl
          have hit := it3W HW.out (E6.out.keep k7 (fun _ h => h.elim)) hGok hGl (Blk.new wr 3 #[.int .i64 0]) (by omega)
          have E7 := Lib.hid (E6.out.keep k7 (fun _ h => h.elim))
          have K7 := Lib.hid k7
          clear ha k7 i7 hkn
          go_wp2_with fail
          refine hit.mono ?_
          rintro e w8 ⟨rfl, hk8, m, hn8, hmc⟩
          have E8 := E7.out.keep hk8 (fun b hb => by have hb : b = wr.heap.size := hb; omega)
          have b1 : w8.cell? ⟨wr.heap.size, 0, none⟩ = some (.int .i64 m) := hn8.cell' (i := 0) rfl
          have b2 : w8.cell? ⟨w1.heap.size, 0, none⟩ = some (.slice wa W.length wc) := E8.bw.cell' (i := 0) rfl
          have b3 : w8.cell? ⟨w.heap.size, 0, none⟩ = some (.int .i64 stop) := E8.bs.cell' (i := 0) rfl
          have K8 := Lib.hid (K6.out.trans (K7.out.over hk8 (fun b hb => by have hb : b = wr.heap.size := hb; omega)) (fun _ _ h => h))
          clear hit x7 hk8 hn8 E8
          by_cases hm : m = W.length
          · subst hm
            clear hmc
            go_wp2_with fail
            refine (known_any _).mono ?_
            rintro e w9 ⟨rfl, hk⟩
            go_wp2_with fail
            go_ret
            exact ⟨rfl, K8.out.trans hk (fun _ _ h => h)⟩
          · have hmI : ¬ (m : Int) = W.length := by omega
            have hst : stop = (m : Int) := (hmc.resolve_left hm).symm
            rw [hst] at b3
            clear hmc hst
            go_wp2_with fail
            refine (known_any _).mono ?_
            rintro e w9 ⟨rfl, hk⟩
            go_wp2_with fail
            go_ret
            exact ⟨rfl, K8.out.trans hk (fun _ _ h => h)⟩
end stampEachs
end Go.Proofs.Ytdbnohlignpeaaa
