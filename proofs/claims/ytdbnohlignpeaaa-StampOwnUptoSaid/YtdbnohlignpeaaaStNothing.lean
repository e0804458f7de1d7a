/- hearsaylaw6.StampNothing, walked. -/
import Derived.Test.YtdbnohlignpeaaaStPair
import Derived.Test.YtdbnohlignpeaaaStTell3
import Derived.Test.YtdbnohlignpeaaaStKnown
import Derived.Test.YtdbnohlignpeaaaRows
import Derived.WalkKit
import Derived.ProofKit
import Derived.OpenShut
import Derived.ShutString
import Derived.ChangeOld
import Derived.Below
import Derived.StillTailTactics
import Derived.JoinedCond
import Derived.Deep.DeepCutAuto
import Derived.Deep.CutBlock
namespace Go.Proofs.Ytdbnohlignpeaaa
open Go.RowKit Go.Proofs.Ytdbnohlignpeaaa.St
namespace stampNothing
/-- the zero Reader at Z, the document's Reader of nothing in the variable at X -/
def Rel (w : World) (Z X : Nat) (wr : World) : Prop :=
  ∃ e : Int, RdIs wr Z [] e (fun b => b = Z) ∧ Blk wr X 63 #[.slice none 0 0, .int .i64 0, .int .i64 e] ∧ Kept (fun _ => False) w wr
theorem Rel.kept {w : World} {Z X : Nat} {wr wr' : World} (h : Rel w Z X wr) (hk : Kept (fun _ => False) wr wr') : Rel w Z X wr' := by
  obtain ⟨e, h1, h2, h3⟩ := h
  exact ⟨e, h1.keep hk (fun _ _ _ h => h), hk.blk (fun h => h) h2, h3.trans hk (fun _ _ h => h)⟩
theorem rd_zero (w : World) : RdIs (w.alloc (.cells #[.slice none 0 0, .int .i64 0] 70)) w.heap.size [] 0 (fun b => b = w.heap.size) :=
  ⟨.slice none 0 0, Blk.new w _ _, .inl ⟨rfl, rfl⟩, (by intro h; cases h), by
    funext b
    apply propext
    constructor
    · exact .inl
    · rintro (h | h)
      · exact h
      · cases h⟩
theorem kcell {w w' : World} (hk : Kept (fun _ => False) w w') : (∀ b o, b < w.heap.size → w'.cell? ⟨b, o, none⟩ = w.cell? ⟨b, o, none⟩) ∧ (∀ b o, b < w.heap.size → w'.frozen? ⟨b, o, none⟩ = w.frozen? ⟨b, o, none⟩) ∧ w.heap.size ≤ w'.heap.size :=
  ⟨fun b o h => World.cell?_of_block (a := ⟨b, o, none⟩) (hk.block b h (fun h => h)), fun b o h => by
    have := hk.block b h (fun h => h)
    simp [World.frozen?, this], hk.size⟩
theorem far_cell {w w' : World} {k b o : Nat} {v : Value} (hk : Kept (· = k) w w') (hb : ¬ b = k) (h : w.cell? ⟨b, o, none⟩ = some v) : w'.cell? ⟨b, o, none⟩ = some v :=
  (World.cell?_of_block (a := ⟨b, o, none⟩) (hk.block b (World.block_lt_of_cell? w ⟨b, o, none⟩ h) hb)).trans h
theorem rtI_zero (e : Int) (t : Bool) : (rtI [] 0 e t).2.1 = 0 := by
  have := (rdI_rtI (B := []) (p := 0) (by simp) e t).2.2.2
  simpa using this
set_option maxRecDepth 100000 in
set_option maxHeartbeats 4000000 in
theorem walk_core {w : World} {v : Value} {L : List St.Item} (h : SlAt itemE w v L) (hin : ∀ x ∈ L, I64 x.n) :
    Calls Try.prog 9 #[v] w fun e w' => e = .returned (.bool true) ∧ Kept (fun _ => False) w w' := by
  have hm1 := much_any h none 0 0
  obtain ⟨a, c, rfl, hac, hcm⟩ := h.sl
  have HS := Lib.hid h
  have HI := Lib.hid hin
  have M1 := Lib.hid hm1
  clear h hin hm1 hac hcm
  go_enter Try.func9, Try.ntmps9
  go_wp2_with fail
  refine M1.out.mono ?_
  rintro e w' ⟨r1, rfl, hr1, hw⟩
  obtain rfl := hw.symm
  clear hw
  cases r1 with
  | true =>
    clear hr1
    go_wp2_with fail
    refine (known_any _).mono ?_
    rintro e w1 ⟨rfl, hk⟩
    go_wp2_with fail
    go_ret
    exact ⟨rfl, hk⟩
  | false =>
    have SL := Lib.hid (hr1 rfl)
    clear hr1 M1
    have hLn : (L.length : Int) ≤ 400 := by have := SL.out.1; omega
    have hz := rd_zero w
    have hk0 : Kept (fun _ => False) w (w.alloc (.cells #[.slice none 0 0, .int .i64 0] 70)) := (Kept.refl _ _).alloc _
    have Z0 := Lib.hid hz
    have K0 := Lib.hid hk0
    clear hz hk0
    go_wp2_with fail
    refine (refRead_any none 0 0 _).mono ?_
    rintro e w1 ⟨rfl, hg⟩
    have hR : Hid (Rel w w.heap.size w1.heap.size (w1.alloc (.cells #[.slice none 0 0, .int .i64 0, .int .i64 0] 63))) :=
      Lib.hid ⟨0, (Z0.out.keep hg.kept (fun _ _ _ h => h)).keep ((Kept.refl (fun _ => False) w1).alloc _) (fun _ _ _ h => h), Blk.new w1 _ _, (K0.out.trans hg.kept (fun _ _ h => h)).alloc _⟩
    have hsz : w.heap.size < w1.heap.size := by have := hg.kept.size; simp at this; omega
    clear hg Z0 K0
    go_wp2_with fail
    generalize w1.heap.size = X at *
    go_loopw [7] (fun iv wr => ∃ n : Nat, iv = .int .i64 n ∧ n ≤ L.length ∧ Rel w w.heap.size X wr) (fun iv _ => L.length - (intOf iv).toNat)
    case atStart =>
      exact ⟨0, rfl, Nat.zero_le _, hR.out⟩
    case round =>
      clear hR
      obtain ⟨n, rfl, hn, e, hz, hb, hk⟩ := hrel
      have hn0 : (0 : Int) ≤ n := by omega
      by_cases h1 : n < L.length
      case pos =>
        obtain ⟨x, hx⟩ := get_of_lt h1
        obtain ⟨g, o, ci, hv, hglt, hcs⟩ := SlAt.item HS.out (by omega)
        cases hv
        have CC := Lib.hid (hcs n x hx)
        have hnl : (n : Int) < L.length := by omega
        obtain ⟨xt, xn, xs⟩ := x
        have d0 := old_cell hk CC.out.1
        have d1 := old_cell hk CC.out.2.1
        have d2 := old_cell hk CC.out.2.2
        have HZ := Lib.hid hz
        have HB := Lib.hid hb
        have KK := Lib.hid hk
        clear hx hcs hz hb hk
        go_wp2_with fail
        refine (lay_nil ⟨xt, xn, xs⟩ _).mono ?_
        rintro e' w2 ⟨rfl, hg⟩
        have hk2 := hg.kept
        have d0 := old_cell hk2 d0
        have d1 := old_cell hk2 d1
        have d2 := old_cell hk2 d2
        have hb2 := hk2.blk (fun h => h) HB.out
        have x0 : _ = some _ := hb2.cell' (i := 0) rfl
        have x1 : _ = some _ := hb2.cell' (i := 1) rfl
        have x2 : _ = some _ := hb2.cell' (i := 2) rfl
        have HZ2 := Lib.hid (HZ.out.keep hk2 (fun _ _ _ h => h))
        have K2 := Lib.hid (KK.out.trans hk2 (fun _ _ h => h))
        have B2 := Lib.hid hb2
        clear hg hk2 hb2 HZ HB KK
        have htk : ∀ W, Calls Try.prog 36 #[.agg #[.slice none 0 0, .int .i64 0, .int .i64 e], .agg #[.bool xt, .int .i64 xn, .string xs]] W fun e' w' => e' = .returned (.tuple #[.agg #[.bool (rtI [] 0 e xt).1.text, .int .i64 (rtI [] 0 e xt).1.n, .string (rtI [] 0 e xt).1.s], .agg #[.slice none 0 0, .int .i64 0, .int .i64 (rtI [] 0 e xt).2.2]]) ∧ Grew W w' := fun W => by
          have h := taken_any (w := W) (a := none) (c := 0) (L := []) (.inl ⟨rfl, rfl⟩) (by simp) 0 (by simp) e ⟨xt, xn, xs⟩
          rw [show (rtI [] 0 e xt).2.1 = 0 from rtI_zero e xt] at h
          exact h
        have hrd := rdI_rtI (B := []) (p := 0) (by simp) e xt
        rw [rtI_zero] at hrd
        generalize rtI [] 0 e xt = T at *
        obtain ⟨⟨it, ix, is⟩, ip, ie⟩ := T
        simp only at htk hrd
        have HT := Lib.hid htk
        have RD := Lib.hid hrd
        clear htk hrd
        go_upto_region 11 with (fail)
        go_cut [8, 9] (fun v8 v9 wx => ∃ A8 A9, v8 = .pointer (some ⟨A8, 0, none⟩) ∧ v9 = .pointer (some ⟨A9, 0, none⟩) ∧ (w2.heap.size ≤ A8 ∧ w2.heap.size ≤ A9) ∧ (wx.cell? ⟨A8, 0, none⟩ = some (.bool it) ∧ wx.cell? ⟨A8, 1, none⟩ = some (.int .i64 ix) ∧ wx.cell? ⟨A8, 2, none⟩ = some (.string is)) ∧ (wx.cell? ⟨A9, 0, none⟩ = some (.slice none 0 0) ∧ wx.cell? ⟨A9, 1, none⟩ = some (.int .i64 0) ∧ wx.cell? ⟨A9, 2, none⟩ = some (.int .i64 ie)) ∧ Kept (fun _ => False) w2 wx)
        case first =>
          have hkk : Kept (fun _ => False) w2 w2.drew := (Kept.refl _ _).drew
          have n0 := World.new_ne w2 _ d0
          have n3 := World.new_ne w2 _ x0
          have hXl : X < w2.heap.size := B2.out.lt
          have hgl : g < w2.heap.size := Nat.lt_of_lt_of_le hglt K2.out.size
          have qX1 : ¬ X = w2.heap.size + 1 := by omega
          have qX2 : ¬ w2.heap.size + 1 = X := by omega
          have qg1 : ¬ g = w2.heap.size + 1 := by omega
          have qg2 : ¬ w2.heap.size + 1 = g := by omega
          have qX3 : ¬ X = w2.heap.size := by omega
          have qX4 : ¬ w2.heap.size = X := by omega
          have qg3 : ¬ g = w2.heap.size := by omega
          have qg4 : ¬ w2.heap.size = g := by omega
          go_region_held3 (fun w' => w'.cell? ⟨X, 0, none⟩ = some (.slice none 0 0) ∧ w'.cell? ⟨X, 1, none⟩ = some (.int .i64 0) ∧ w'.cell? ⟨X, 2, none⟩ = some (.int .i64 e) ∧ w'.cell? ⟨g, o + n * 3, none⟩ = some (.bool xt) ∧ w'.cell? ⟨g, o + n * 3 + 1, none⟩ = some (.int .i64 xn) ∧ w'.cell? ⟨g, o + n * 3 + 2, none⟩ = some (.string xs)) (first | (with_reducible exact ⟨x0, x1, x2, d0, d1, d2⟩) | go_keep)
            (first | (go_simp; go_at_call 36; refine (HT.out _).mono ?_; rintro e' w5 ⟨rfl, hg⟩; have hk6 : Kept (fun _ => False) w2 w5 := (by first | exact hkk.trans hg.kept (fun _ _ h => h) | exact (hkk.alloc _).trans hg.kept (fun _ _ h => h) | exact ((hkk.alloc _).alloc _).trans hg.kept (fun _ _ h => h)); have x0 := old_cell hk6 x0; have x1 := old_cell hk6 x1; have x2 := old_cell hk6 x2; have d0 := old_cell hk6 d0; have d1 := old_cell hk6 d1; have d2 := old_cell hk6 d2; have K6 := Lib.hid hk6; (first | (have b8 := hg.kept.blk (fun h => h) ((Blk.new w2.drew 49 #[.bool false, .int .i64 0, .string ⟨#[]⟩]).alloc (.cells #[.slice none 0 0, .int .i64 0, .int .i64 0] 63)); have b9 := hg.kept.blk (fun h => h) (Blk.new (w2.drew.alloc (.cells #[.bool false, .int .i64 0, .string ⟨#[]⟩] 49)) 63 #[.slice none 0 0, .int .i64 0, .int .i64 0]); rw [World.size_alloc] at b9; have y0 : w5.cell? ⟨w2.heap.size, 0, none⟩ = some (.bool false) := b8.cell' (i := 0) rfl; have fy0 : w5.frozen? ⟨w2.heap.size, 0, none⟩ = false := b8.frozen 0; have y1 : w5.cell? ⟨w2.heap.size, 1, none⟩ = some (.int .i64 0) := b8.cell' (i := 1) rfl; have fy1 : w5.frozen? ⟨w2.heap.size, 1, none⟩ = false := b8.frozen 1; have y2 : w5.cell? ⟨w2.heap.size, 2, none⟩ = some (.string ⟨#[]⟩) := b8.cell' (i := 2) rfl; have fy2 : w5.frozen? ⟨w2.heap.size, 2, none⟩ = false := b8.frozen 2; have ly : w2.heap.size < w5.heap.size := b8.lt; clear b8; have z0 : w5.cell? ⟨w2.heap.size + 1, 0, none⟩ = some (.slice none 0 0) := b9.cell' (i := 0) rfl; have fz0 : w5.frozen? ⟨w2.heap.size + 1, 0, none⟩ = false := b9.frozen 0; have z1 : w5.cell? ⟨w2.heap.size + 1, 1, none⟩ = some (.int .i64 0) := b9.cell' (i := 1) rfl; have fz1 : w5.frozen? ⟨w2.heap.size + 1, 1, none⟩ = false := b9.frozen 1; have z2 : w5.cell? ⟨w2.heap.size + 1, 2, none⟩ = some (.int .i64 0) := b9.cell' (i := 2) rfl; have fz2 : w5.frozen? ⟨w2.heap.size + 1, 2, none⟩ = false := b9.frozen 2; have lz : w2.heap.size + 1 < w5.heap.size := b9.lt; clear b9) | (have b9 := hg.kept.blk (fun h => h) ((Blk.new w2.drew 63 #[.slice none 0 0, .int .i64 0, .int .i64 0]).alloc (.cells #[.bool false, .int .i64 0, .string ⟨#[]⟩] 49)); have b8 := hg.kept.blk (fun h => h) (Blk.new (w2.drew.alloc (.cells #[.slice none 0 0, .int .i64 0, .int .i64 0] 63)) 49 #[.bool false, .int .i64 0, .string ⟨#[]⟩]); rw [World.size_alloc] at b8; have z0 : w5.cell? ⟨w2.heap.size, 0, none⟩ = some (.slice none 0 0) := b9.cell' (i := 0) rfl; have fz0 : w5.frozen? ⟨w2.heap.size, 0, none⟩ = false := b9.frozen 0; have z1 : w5.cell? ⟨w2.heap.size, 1, none⟩ = some (.int .i64 0) := b9.cell' (i := 1) rfl; have fz1 : w5.frozen? ⟨w2.heap.size, 1, none⟩ = false := b9.frozen 1; have z2 : w5.cell? ⟨w2.heap.size, 2, none⟩ = some (.int .i64 0) := b9.cell' (i := 2) rfl; have fz2 : w5.frozen? ⟨w2.heap.size, 2, none⟩ = false := b9.frozen 2; have lz : w2.heap.size < w5.heap.size := b9.lt; clear b9; have y0 : w5.cell? ⟨w2.heap.size + 1, 0, none⟩ = some (.bool false) := b8.cell' (i := 0) rfl; have fy0 : w5.frozen? ⟨w2.heap.size + 1, 0, none⟩ = false := b8.frozen 0; have y1 : w5.cell? ⟨w2.heap.size + 1, 1, none⟩ = some (.int .i64 0) := b8.cell' (i := 1) rfl; have fy1 : w5.frozen? ⟨w2.heap.size + 1, 1, none⟩ = false := b8.frozen 1; have y2 : w5.cell? ⟨w2.heap.size + 1, 2, none⟩ = some (.string ⟨#[]⟩) := b8.cell' (i := 2) rfl; have fy2 : w5.frozen? ⟨w2.heap.size + 1, 2, none⟩ = false := b8.frozen 2; have ly : w2.heap.size + 1 < w5.heap.size := b8.lt; clear b8) | (have b8 := hg.kept.blk (fun h => h) (Blk.new w2.drew 49 #[.bool false, .int .i64 0, .string ⟨#[]⟩]); have y0 : w5.cell? ⟨w2.heap.size, 0, none⟩ = some (.bool false) := b8.cell' (i := 0) rfl; have fy0 : w5.frozen? ⟨w2.heap.size, 0, none⟩ = false := b8.frozen 0; have y1 : w5.cell? ⟨w2.heap.size, 1, none⟩ = some (.int .i64 0) := b8.cell' (i := 1) rfl; have fy1 : w5.frozen? ⟨w2.heap.size, 1, none⟩ = false := b8.frozen 1; have y2 : w5.cell? ⟨w2.heap.size, 2, none⟩ = some (.string ⟨#[]⟩) := b8.cell' (i := 2) rfl; have fy2 : w5.frozen? ⟨w2.heap.size, 2, none⟩ = false := b8.frozen 2; have ly : w2.heap.size < w5.heap.size := b8.lt; clear b8) | (have b9 := hg.kept.blk (fun h => h) (Blk.new w2.drew 63 #[.slice none 0 0, .int .i64 0, .int .i64 0]); have z0 : w5.cell? ⟨w2.heap.size, 0, none⟩ = some (.slice none 0 0) := b9.cell' (i := 0) rfl; have fz0 : w5.frozen? ⟨w2.heap.size, 0, none⟩ = false := b9.frozen 0; have z1 : w5.cell? ⟨w2.heap.size, 1, none⟩ = some (.int .i64 0) := b9.cell' (i := 1) rfl; have fz1 : w5.frozen? ⟨w2.heap.size, 1, none⟩ = false := b9.frozen 1; have z2 : w5.cell? ⟨w2.heap.size, 2, none⟩ = some (.int .i64 0) := b9.cell' (i := 2) rfl; have fz2 : w5.frozen? ⟨w2.heap.size, 2, none⟩ = false := b9.frozen 2; have lz : w2.heap.size < w5.heap.size := b9.lt; clear b9) | skip); clear hk6 hg))
          all_goals
            go_wp2_with fail
            go_meet
            case rel =>
              have hsz6 := K6.out.size
              refine ⟨_, _, rfl, rfl, ⟨by omega, by omega⟩, ⟨?_, ?_, ?_⟩, ⟨?_, ?_, ?_⟩, ?_⟩
              · go_simp
              · go_simp
              · go_simp
              · go_simp
              · go_simp
              · go_simp
              · repeat' (first | (with_reducible exact K6.out) | (with_reducible apply Kept.alloc) | (with_reducible refine Kept.setCell ?_ ?_ _))
                all_goals (intro h; exact absurd h (by first | (simp; done) | (simp; omega) | omega))
        case rest =>
          obtain ⟨A8, A9, rfl, rfl, ⟨hA8, hA9⟩, ⟨y0, y1, y2⟩, ⟨z0, z1, z2⟩, hkc⟩ := hcut
          have hXl : X < w2.heap.size := B2.out.lt
          have hbc := hkc.blk (fun h => h) B2.out
          have d0 := old_cell hkc d0
          have d1 := old_cell hkc d1
          have d2 := old_cell hkc d2
          have x0 : _ = some _ := hbc.cell' (i := 0) rfl
          have x1 : _ = some _ := hbc.cell' (i := 1) rfl
          have x2 : _ = some _ := hbc.cell' (i := 2) rfl
          have f0 := hbc.frozen 0
          have f1 := hbc.frozen 1
          have f2 := hbc.frozen 2
          have hgl : g < w2.heap.size := Nat.lt_of_lt_of_le hglt K2.out.size
          have m1 : ¬ g = X := by omega
          have m2 : ¬ X = g := by omega
          have m3 : ¬ A8 = X := by omega
          have m4 : ¬ X = A8 := by omega
          have HB := Lib.hid hbc
          have KC := Lib.hid (K2.out.trans hkc (fun _ _ h => h))
          have ZC := Lib.hid (HZ2.out.keep hkc (fun _ _ _ h => h))
          have hwc := hkc.size
          clear hbc hkc B2 K2 HZ2
          go_wp2_with fail
          have hkX := set3r (w1 := wc) (k := X) (a := .slice none 0 0) (b := .int .i64 0) (c := .int .i64 ie)
          have hb3 : Blk (((wc.setCell ⟨X, 0, none⟩ (.slice none 0 0)).setCell ⟨X, 1, none⟩ (.int .i64 0)).setCell ⟨X, 2, none⟩ (.int .i64 ie)) X 63 #[.slice none 0 0, .int .i64 0, .int .i64 ie] := ((HB.out.set_ 0 _).set_ 1 _).set_ 2 _
          have hs3 : (((wc.setCell ⟨X, 0, none⟩ (.slice none 0 0)).setCell ⟨X, 1, none⟩ (.int .i64 0)).setCell ⟨X, 2, none⟩ (.int .i64 ie)).heap.size = wc.heap.size := by simp [World.setCell]
          have y0 := far_cell hkX m3 y0
          have y1 := far_cell hkX m3 y1
          have y2 := far_cell hkX m3 y2
          have d0 := far_cell hkX m1 d0
          have d1 := far_cell hkX m1 d1
          have d2 := far_cell hkX m1 d2
          have hkw := KC.out.over hkX (fun b hb => by have h : b = X := hb; omega)
          have hz := ZC.out.keep hkX (fun b hb _ h => by have h : b = X := h; have hb : b = w.heap.size := hb; omega)
          clear hkX x0 x1 x2 f0 f1 f2 z0 z1 z2
          generalize (((wc.setCell ⟨X, 0, none⟩ (.slice none 0 0)).setCell ⟨X, 1, none⟩ (.int .i64 0)).setCell ⟨X, 2, none⟩ (.int .i64 ie)) = W3 at *
          have hbn := Blk.new W3 49 #[.bool xt, .int .i64 0, .string ⟨#[]⟩]
          have hka : Kept (fun _ => False) W3 (W3.alloc (.cells #[.bool xt, .int .i64 0, .string ⟨#[]⟩] 49)).drew := ((Kept.refl _ _).alloc _).drew
          rw [hs3] at hbn
          have hbd : Blk (W3.alloc (.cells #[.bool xt, .int .i64 0, .string ⟨#[]⟩] 49)).drew wc.heap.size 49 #[.bool xt, .int .i64 0, .string ⟨#[]⟩] := hbn
          have q0 : _ = some (Value.bool xt) := hbd.cell' (i := 0) rfl
          have q1 : _ = some (Value.int .i64 0) := hbd.cell' (i := 1) rfl
          have q2 : _ = some (Value.string ⟨#[]⟩) := hbd.cell' (i := 2) rfl
          have hbX := hka.blk (fun h => h) hb3
          have x0 : _ = some (Value.slice none 0 0) := hbX.cell' (i := 0) rfl
          have x1 : _ = some (Value.int .i64 0) := hbX.cell' (i := 1) rfl
          have x2 : _ = some (Value.int .i64 ie) := hbX.cell' (i := 2) rfl
          have y0 := old_cell hka y0
          have y1 := old_cell hka y1
          have y2 := old_cell hka y2
          have d0 := old_cell hka d0
          have d1 := old_cell hka d1
          have d2 := old_cell hka d2
          have hkw := hkw.trans hka (fun _ _ h => h)
          have hz := hz.keep hka (fun _ _ _ h => h)
          have r1 : ¬ A8 = w.heap.size := by omega
          have r2 : ¬ wc.heap.size = w.heap.size := by omega
          have r3 : ¬ g = w.heap.size := by omega
          have r4 : ¬ X = w.heap.size := by omega
          have HTN : Hid (∀ W, Calls Try.prog 35 #[.pointer none, .agg #[.bool xt, .int .i64 xn, .string xs]] W fun e' w' => e' = .returned (.agg #[.bool xt, .int .i64 0, .string ⟨#[]⟩]) ∧ Grew W w') := Lib.hid fun W => take_nil W ⟨xt, xn, xs⟩
          have HTZ : Hid (∀ W, RdIs W w.heap.size [] e (fun b => b = w.heap.size) → Calls Try.prog 35 #[.pointer (some ⟨w.heap.size, 0, none⟩), .agg #[.bool xt, .int .i64 xn, .string xs]] W fun e' w' => e' = .returned (.agg #[.bool it, .int .i64 ix, .string is]) ∧ RdIs w' w.heap.size [] ie (fun b => b = w.heap.size) ∧ Kept (· = w.heap.size) W w') := Lib.hid fun W hW => by
            have h := take_any hW (fun b hb => by obtain ⟨v, h1, _⟩ := hW; have := h1.lt; have hb : b = w.heap.size := hb; omega) (by simp) ⟨xt, xn, xs⟩
            rw [show rdI [] e xt = (⟨it, ix, is⟩, [], ie) by
              have r1 := RD.out.1
              have r2 := RD.out.2.1
              have r3 := RD.out.2.2.1
              simp only [List.drop_nil] at r1 r2 r3
              exact Prod.ext r1 (Prod.ext r2 r3)] at h
            exact h
          have HTL : Hid (∀ W, RdIs W w.heap.size [] ie (fun b => b = w.heap.size) → Calls Try.prog 34 #[.pointer (some ⟨w.heap.size, 0, none⟩), .agg #[.slice none 0 0, .int .i64 0, .int .i64 ie]] W fun e' w' => e' = .returned (.bool true) ∧ Kept (fun _ => False) W w') := Lib.hid fun W hW => tells_any (B := []) (p := 0) hW (by simp) (by simp)
          clear hb3 hka hbn hbd HB KC ZC RD
          go_region_held3 (fun w' => (w'.cell? ⟨A8, 0, none⟩ = some (.bool it) ∧ w'.cell? ⟨A8, 1, none⟩ = some (.int .i64 ix) ∧ w'.cell? ⟨A8, 2, none⟩ = some (.string is)) ∧ (w'.cell? ⟨wc.heap.size, 0, none⟩ = some (.bool xt) ∧ w'.cell? ⟨wc.heap.size, 1, none⟩ = some (.int .i64 0) ∧ w'.cell? ⟨wc.heap.size, 2, none⟩ = some (.string ⟨#[]⟩)) ∧ (w'.cell? ⟨g, o + n * 3, none⟩ = some (.bool xt) ∧ w'.cell? ⟨g, o + n * 3 + 1, none⟩ = some (.int .i64 xn) ∧ w'.cell? ⟨g, o + n * 3 + 2, none⟩ = some (.string xs)) ∧ (w'.cell? ⟨X, 0, none⟩ = some (.slice none 0 0) ∧ w'.cell? ⟨X, 1, none⟩ = some (.int .i64 0) ∧ w'.cell? ⟨X, 2, none⟩ = some (.int .i64 ie))) (first | (with_reducible exact ⟨⟨y0, y1, y2⟩, ⟨q0, q1, q2⟩, ⟨d0, d1, d2⟩, ⟨x0, x1, x2⟩⟩))
            (first
              | (go_simp; go_at_call 34; (with_reducible refine (HTL.out _ hz).mono ?_); rintro e' w6 ⟨rfl, hk6⟩; have y0 := old_cell hk6 y0; have y1 := old_cell hk6 y1; have y2 := old_cell hk6 y2; have q0 := old_cell hk6 q0; have q1 := old_cell hk6 q1; have q2 := old_cell hk6 q2; have d0 := old_cell hk6 d0; have d1 := old_cell hk6 d1; have d2 := old_cell hk6 d2; have x0 := old_cell hk6 x0; have x1 := old_cell hk6 x1; have x2 := old_cell hk6 x2; have hkw := hkw.trans hk6 (fun _ _ h => h); have hbX := hk6.blk (fun h => h) hbX; have hz := hz.keep hk6 (fun _ _ _ h => h); clear hk6)
              | (go_simp; go_at_call 35; (with_reducible refine (HTZ.out _ hz).mono ?_); rintro e' w6 ⟨rfl, hz6, hk6⟩; have y0 := far_cell hk6 (by assumption) y0; have y1 := far_cell hk6 (by assumption) y1; have y2 := far_cell hk6 (by assumption) y2; have q0 := far_cell hk6 (by assumption) q0; have q1 := far_cell hk6 (by assumption) q1; have q2 := far_cell hk6 (by assumption) q2; have d0 := far_cell hk6 (by assumption) d0; have d1 := far_cell hk6 (by assumption) d1; have d2 := far_cell hk6 (by assumption) d2; have x0 := far_cell hk6 (by assumption) x0; have x1 := far_cell hk6 (by assumption) x1; have x2 := far_cell hk6 (by assumption) x2; have hkw := hkw.over hk6 (fun b hb => by have h : b = w.heap.size := hb; omega); have hbX := hk6.blk r4 hbX; clear hk6 hz; have hz := hz6; clear hz6)
              | (go_simp; go_at_call 35; (with_reducible refine (HTN.out _).mono ?_); rintro e' w6 ⟨rfl, hg6⟩; have hk6 := hg6.kept; have y0 := old_cell hk6 y0; have y1 := old_cell hk6 y1; have y2 := old_cell hk6 y2; have q0 := old_cell hk6 q0; have q1 := old_cell hk6 q1; have q2 := old_cell hk6 q2; have d0 := old_cell hk6 d0; have d1 := old_cell hk6 d1; have d2 := old_cell hk6 d2; have x0 := old_cell hk6 x0; have x1 := old_cell hk6 x1; have x2 := old_cell hk6 x2; have hkw := hkw.trans hk6 (fun _ _ h => h); have hbX := hk6.blk (fun h => h) hbX; have hz := hz.keep hk6 (fun _ _ _ h => h); clear hk6 hg6))
          go_wp2_with fail
          go_roundw
          case rel => exact ⟨n + 1, by go_num, by omega, ie, hz, hbX, hkw⟩
          case measure => simp [intOf] <;> omega
      case neg =>
        have KK := Lib.hid hk
        clear hz hb hk
        go_wp2_with fail
        refine (wdata_nil _).mono ?_
        rintro e' w6 ⟨rfl, rfl⟩
        go_wp2_with fail
        refine (werr_nil _).mono ?_
        rintro e' w6 ⟨rfl, rfl⟩
        go_wp2_with fail
        refine (rleft_nil _).mono ?_
        rintro e' w6 ⟨rfl, rfl⟩
        go_wp2_with fail
        refine (rerr_nil _).mono ?_
        rintro e' w6 ⟨rfl, rfl⟩
        go_wp2_with fail
        refine (rend_nil _).mono ?_
        rintro e' w6 ⟨rfl, rfl⟩
        go_wp2_with fail
        refine (known_any _).mono ?_
        rintro e' w6 ⟨rfl, hk6⟩
        go_wp2_with fail
        go_ret
        exact ⟨rfl, KK.out.trans hk6 (fun _ _ h => h)⟩
end stampNothing
end Go.Proofs.Ytdbnohlignpeaaa
