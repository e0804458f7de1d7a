/- hearsayref6: TakeText, Read. -/
import Derived.Test.YtdbnohlignpeaaaStRefTake
namespace Go.Proofs.Ytdbnohlignpeaaa.St
open Go.RowKit

theorem rtN_err {L : List UInt8} {p : Nat} {e : Int} (he : e ≠ 0) : rtN L p e = (0, p, e) := by unfold rtN; rw [if_pos he]
theorem rtN_le {L : List UInt8} {p : Nat} (e : Int) (hp : p ≤ L.length) : (rtN L p e).2.1 ≤ L.length := by
  unfold rtN
  split
  · exact hp
  · split
    · exact hp
    · simp
set_option maxRecDepth 100000 in
theorem rrnum_err {w : World} {a : Option Addr} {n c p : Nat} {e : Int} (he : e ≠ 0) :
    Calls Try.prog 71 #[.agg #[.slice a n c, .int .i64 p, .int .i64 e]] w fun e' w' => e' = .returned (.tuple #[.int .i64 0, .agg #[.slice a n c, .int .i64 p, .int .i64 e]]) ∧ Grew w w' := by
  have hb : (e != 0) = true := by simpa using he
  clear he
  go_enter Try.func71, Try.ntmps71
  go_wp2_with fail
  go_region
  go_wp2_with fail
  refine bodyPost_ret (v := .tuple #[.int .i64 0, .agg #[.slice a n c, .int .i64 p, .int .i64 e]]) (by simp [results, Try.results71, go_sem]) rfl ⟨rfl, (((Grew.refl w).alloc _).alloc _).drew⟩
theorem rrnum_any {w : World} {a : Option Addr} {c : Nat} {L : List UInt8} (h : SlAt byteE w (.slice a L.length c) L) (hL : L.length ≤ 1000000000) (p : Nat) (hp : p ≤ L.length) (e : Int) :
    Calls Try.prog 71 #[.agg #[.slice a L.length c, .int .i64 p, .int .i64 e]] w fun e' w' => e' = .returned (.tuple #[.int .i64 (rtN L p e).1, .agg #[.slice a L.length c, .int .i64 (rtN L p e).2.1, .int .i64 (rtN L p e).2.2]]) ∧ Grew w w' := by
  by_cases he : e = 0
  · subst he; exact rrnum_ok h hL p hp
  · rw [rtN_err he]; exact rrnum_err he
def rtT (L : List UInt8) (p : Nat) (e : Int) : List UInt8 × Nat × Int :=
  if (rtN L p e).2.2 ≠ 0 then ([], p, (rtN L p e).2.2) else if L.length - (rtN L p e).2.1 < (rtN L p e).1 then ([], p, 5) else ((L.drop (rtN L p e).2.1).take (rtN L p e).1, (rtN L p e).2.1 + (rtN L p e).1, 0)
set_option maxRecDepth 100000 in
set_option maxHeartbeats 4000000 in
theorem rrtext_any {w : World} {a : Option Addr} {c : Nat} {L : List UInt8} (h : SlAt byteE w (.slice a L.length c) L) (hL : L.length ≤ 1000000000) (p : Nat) (hp : p ≤ L.length) (e : Int) :
    Calls Try.prog 70 #[.agg #[.slice a L.length c, .int .i64 p, .int .i64 e]] w fun e' w' => e' = .returned (.tuple #[.string (strOf (rtT L p e).1), .agg #[.slice a L.length c, .int .i64 (rtT L p e).2.1, .int .i64 (rtT L p e).2.2]]) ∧ Grew w w' := by
  have hg0 : Grew w ((w.alloc (.cells #[.slice a L.length c, .int .i64 p, .int .i64 e] 63)).alloc (.cells #[.slice none 0 0, .int .i64 0, .int .i64 0] 63)) := ((Grew.refl _).alloc _).alloc _
  have hc := rrnum_any (h.kept hg0.kept) hL p hp e
  have hB0 := (Blk.new w 63 #[.slice a L.length c, .int .i64 p, .int .i64 e]).alloc (.cells #[.slice none 0 0, .int .i64 0, .int .i64 0] 63)
  have hB1 := Blk.new (w.alloc (.cells #[.slice a L.length c, .int .i64 p, .int .i64 e] 63)) 63 #[.slice none 0 0, .int .i64 0, .int .i64 0]
  rw [World.size_alloc] at hB1
  have hle := rtN_le (L := L) e hp
  have hR0 : Hid (rtT L p e = if (rtN L p e).2.2 ≠ 0 then ([], p, (rtN L p e).2.2) else if L.length - (rtN L p e).2.1 < (rtN L p e).1 then ([], p, 5) else ((L.drop (rtN L p e).2.1).take (rtN L p e).1, (rtN L p e).2.1 + (rtN L p e).1, 0)) := Lib.hid rfl
  generalize rtN L p e = T at *
  obtain ⟨tn, tp, te⟩ := T
  simp only at hc hle
  have H0 := Lib.hid (show rtT L p e = if te ≠ 0 then ([], p, te) else if L.length - tp < tn then ([], p, 5) else ((L.drop tp).take tn, tp + tn, 0) from hR0.out)
  have G0 := Lib.hid hg0
  have HS := Lib.hid h
  have B0 := Lib.hid hB0
  have B1 := Lib.hid hB1
  have hLI : (L.length : Int) ≤ 1000000000 := by omega
  have htp0 : (0 : Int) ≤ tp := by omega
  have htpL : (tp : Int) ≤ L.length := by omega
  have htn0 : (0 : Int) ≤ tn := by omega
  clear hg0 hB0 hB1 h hR0
  by_cases he : te = 0
  case neg =>
    have hR : Hid (rtT L p e = ([], p, te)) := Lib.hid (by rw [H0.out, if_pos he])
    have hne : (te != 0) = true := by simpa using he
    clear he
    go_enter Try.func70, Try.ntmps70
    go_wp2_with fail
    refine hc.mono ?_
    rintro e' w1 ⟨rfl, hg⟩
    have b0 := hg.box B0.out
    have b1 := hg.box B1.out
    have c00 : _ = some _ := b0.cell' (i := 0) rfl
    have c01 : _ = some _ := b0.cell' (i := 1) rfl
    have c02 : _ = some _ := b0.cell' (i := 2) rfl
    have f02 := b0.frozen 2
    have d10 : _ = some _ := b1.cell' (i := 0) rfl
    have d11 : _ = some _ := b1.cell' (i := 1) rfl
    have d12 : _ = some _ := b1.cell' (i := 2) rfl
    have f10 := b1.frozen 0
    have f11 := b1.frozen 1
    have f12 := b1.frozen 2
    have hz : w.heap.size + 1 < w1.heap.size := b1.lt
    have hz0 : w.heap.size < w1.heap.size := b0.lt
    have GG := Lib.hid (G0.out.trans hg)
    clear hg b0 b1 hc
    go_wp2_with fail
    all_goals
      go_region
      go_wp2_with fail
      refine bodyPost_ret (v := .tuple #[.string ⟨#[]⟩, .agg #[.slice a L.length c, .int .i64 p, .int .i64 te]]) (by simp [results, Try.results70, go_sem, d10, d11, d12, hz]) rfl ⟨by rw [hR.out]; first | rfl | (simp; done), ?_⟩
      repeat (first | exact GG.out | apply Grew.alloc | apply Grew.drew | (refine Grew.setCell ?_ (by simp) _))
  case pos =>
    subst he
    by_cases hlong : L.length - tp < tn
    · have hR : Hid (rtT L p e = ([], p, 5)) := Lib.hid (by rw [H0.out, if_neg (by simp), if_pos hlong])
      have hl' : (L.length : Int) - tp < tn := by omega
      go_enter Try.func70, Try.ntmps70
      go_wp2_with fail
      refine hc.mono ?_
      rintro e' w1 ⟨rfl, hg⟩
      have b0 := hg.box B0.out
      have b1 := hg.box B1.out
      have c00 : _ = some _ := b0.cell' (i := 0) rfl
      have c01 : _ = some _ := b0.cell' (i := 1) rfl
      have c02 : _ = some _ := b0.cell' (i := 2) rfl
      have f02 := b0.frozen 2
      have d10 : _ = some _ := b1.cell' (i := 0) rfl
      have d11 : _ = some _ := b1.cell' (i := 1) rfl
      have d12 : _ = some _ := b1.cell' (i := 2) rfl
      have f10 := b1.frozen 0
      have f11 := b1.frozen 1
      have f12 := b1.frozen 2
      have hz : w.heap.size + 1 < w1.heap.size := b1.lt
      have hz0 : w.heap.size < w1.heap.size := b0.lt
      have GG := Lib.hid (G0.out.trans hg)
      clear hg b0 b1 hc
      go_wp2_with fail
      all_goals
        go_region
        go_wp2_with fail
        refine bodyPost_ret (v := .tuple #[.string ⟨#[]⟩, .agg #[.slice a L.length c, .int .i64 p, .int .i64 5]]) (by simp [results, Try.results70, go_sem, d10, d11, d12, hz]) rfl ⟨by rw [hR.out]; first | rfl | (simp; done), ?_⟩
        repeat (first | exact GG.out | apply Grew.alloc | apply Grew.drew | (refine Grew.setCell ?_ (by simp) _))
    · have hR : Hid (rtT L p e = ((L.drop tp).take tn, tp + tn, 0)) := Lib.hid (by rw [H0.out, if_neg (by simp), if_neg hlong])
      have hl' : ¬ (L.length : Int) - tp < tn := by omega
      have hs1 : (tp : Int) ≤ (tp : Int) + tn := by omega
      have hs2 : (tp : Int) + tn ≤ L.length := by omega
      obtain ⟨_, _, hca, hcap, _⟩ := HS.out.sl
      cases hca
      rcases Nat.eq_zero_or_pos tn with rfl | htp
      · have hcv := fun W a u => conv_none (w := W) (a := a) (u := u)
        by_cases hcc : tp = c
        · subst hcc
          rw [Int.natCast_zero] at *
          go_enter Try.func70, Try.ntmps70
          go_wp2_with fail
          refine hc.mono ?_
          rintro e' w1 ⟨rfl, hg⟩
          have b0 := hg.box B0.out
          have b1 := hg.box B1.out
          have c00 : _ = some _ := b0.cell' (i := 0) rfl
          have c01 : _ = some _ := b0.cell' (i := 1) rfl
          have c02 : _ = some _ := b0.cell' (i := 2) rfl
          have f02 := b0.frozen 2
          have d10 : _ = some _ := b1.cell' (i := 0) rfl
          have d11 : _ = some _ := b1.cell' (i := 1) rfl
          have d12 : _ = some _ := b1.cell' (i := 2) rfl
          have f10 := b1.frozen 0
          have f11 := b1.frozen 1
          have f12 := b1.frozen 2
          have hz : w.heap.size + 1 < w1.heap.size := b1.lt
          have hz0 : w.heap.size < w1.heap.size := b0.lt
          have GG := Lib.hid (G0.out.trans hg)
          clear hg b0 b1 hc
          go_wp2_with fail
          all_goals
            go_region
            go_wp2_with fail
            refine bodyPost_ret (v := .tuple #[.string (strOf []), .agg #[.slice a L.length tp, .int .i64 tp, .int .i64 0]]) (by simp [results, Try.results70, go_sem, d10, d11, d12, hz]) rfl ⟨by rw [hR.out]; first | rfl | (simp; done), ?_⟩
            repeat (first | exact GG.out | apply Grew.alloc | apply Grew.drew | (refine Grew.setCell ?_ (by simp) _))
        · rw [Int.natCast_zero] at *
          go_enter Try.func70, Try.ntmps70
          go_wp2_with fail
          refine hc.mono ?_
          rintro e' w1 ⟨rfl, hg⟩
          have b0 := hg.box B0.out
          have b1 := hg.box B1.out
          have c00 : _ = some _ := b0.cell' (i := 0) rfl
          have c01 : _ = some _ := b0.cell' (i := 1) rfl
          have c02 : _ = some _ := b0.cell' (i := 2) rfl
          have f02 := b0.frozen 2
          have d10 : _ = some _ := b1.cell' (i := 0) rfl
          have d11 : _ = some _ := b1.cell' (i := 1) rfl
          have d12 : _ = some _ := b1.cell' (i := 2) rfl
          have f10 := b1.frozen 0
          have f11 := b1.frozen 1
          have f12 := b1.frozen 2
          have hz : w.heap.size + 1 < w1.heap.size := b1.lt
          have hz0 : w.heap.size < w1.heap.size := b0.lt
          have GG := Lib.hid (G0.out.trans hg)
          clear hg b0 b1 hc
          go_wp2_with fail
          all_goals
            go_region
            go_wp2_with fail
            refine bodyPost_ret (v := .tuple #[.string (strOf []), .agg #[.slice a L.length c, .int .i64 tp, .int .i64 0]]) (by simp [results, Try.results70, go_sem, d10, d11, d12, hz]) rfl ⟨by rw [hR.out]; first | rfl | (simp; done), ?_⟩
            repeat (first | exact GG.out | apply Grew.alloc | apply Grew.drew | (refine Grew.setCell ?_ (by simp) _))
      · have hne : ¬ tp = c := by omega
        obtain ⟨g, o, _, hca, _, _, _, _⟩ := HS.out.one (by omega)
        cases hca
        have hcv : ∀ W, Kept (fun _ => False) w W → (convert 44 9 (.slice (some ⟨g, o + tp, none⟩) tn (c - tp))).run Try.prog W = .ok (.string (strOf ((L.drop tp).take tn))) W := fun W hW => by
          have h := SlAt.drop (HS.out.kept hW) tp hle
          rw [← List.length_drop] at h
          exact conv_bytes h (by rw [List.length_drop]; omega)
        have CV := Lib.hid hcv
        clear hcv
        go_enter Try.func70, Try.ntmps70
        go_wp2_with fail
        refine hc.mono ?_
        rintro e' w1 ⟨rfl, hg⟩
        have b0 := hg.box B0.out
        have b1 := hg.box B1.out
        have c00 : _ = some _ := b0.cell' (i := 0) rfl
        have c01 : _ = some _ := b0.cell' (i := 1) rfl
        have c02 : _ = some _ := b0.cell' (i := 2) rfl
        have f02 := b0.frozen 2
        have d10 : _ = some _ := b1.cell' (i := 0) rfl
        have d11 : _ = some _ := b1.cell' (i := 1) rfl
        have d12 : _ = some _ := b1.cell' (i := 2) rfl
        have f10 := b1.frozen 0
        have f11 := b1.frozen 1
        have f12 := b1.frozen 2
        have hz : w.heap.size + 1 < w1.heap.size := b1.lt
        have hz0 : w.heap.size < w1.heap.size := b0.lt
        have GG := Lib.hid (G0.out.trans hg)
        clear hg b0 b1 hc
        have hcv := CV.out _ (GG.out.alloc (.cells #[.slice (some ⟨g, o, none⟩) L.length c, .int .i64 tp, .int .i64 0] 63)).kept
        go_wp2_with fail
        all_goals
          go_region
          go_wp2_with fail
          refine bodyPost_ret (v := .tuple #[.string (strOf ((L.drop tp).take tn)), .agg #[.slice (some ⟨g, o, none⟩) L.length c, .int .i64 ((tp : Int) + tn), .int .i64 0]]) (by simp [results, Try.results70, go_sem, d10, d11, d12, hz]) rfl ⟨by rw [hR.out]; first | rfl | (simp; done), ?_⟩
          repeat (first | exact GG.out | apply Grew.alloc | apply Grew.drew | (refine Grew.setCell ?_ (by simp) _))
end Go.Proofs.Ytdbnohlignpeaaa.St
