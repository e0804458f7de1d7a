/- The laws' own steps on a Reader: take, taken, tells. -/
import Derived.Test.YtdbnohlignpeaaaStTell
namespace Go.Proofs.Ytdbnohlignpeaaa.St
open Go.RowKit

theorem set3r {w1 : World} {k : Nat} {a b c : Value} : Kept (· = k) w1 (((w1.setCell ⟨k, 0, none⟩ a).setCell ⟨k, 1, none⟩ b).setCell ⟨k, 2, none⟩ c) :=
  (((Kept.refl (· = k) w1).setCell (fun _ => rfl) _).setCell (fun _ => rfl) _).setCell (fun _ => rfl) _
set_option maxRecDepth 100000 in
set_option maxHeartbeats 1000000 in
theorem take_any {w : World} {A : Nat} {L : List UInt8} {e : Int} {F : Nat → Prop} (h : RdIs w A L e F) (hF : ∀ b, F b → b < w.heap.size) (hb : L.length ≤ 1000000000) (x : Item) :
    Calls Try.prog 35 #[.pointer (some ⟨A, 0, none⟩), itemV x] w fun e' w' => e' = .returned (itemV (rdI L e x.text).1) ∧ RdIs w' A (rdI L e x.text).2.1 (rdI L e x.text).2.2 F ∧ Kept (· = A) w w' := by
  obtain ⟨t, n, s⟩ := x
  have hk : Kept (fun _ => False) w ((w.alloc (.cells #[.bool t, .int .i64 n, .string s] 49)).alloc (.cells #[.bool false, .int .i64 0, .string ⟨#[]⟩] 49)) := ((Kept.refl _ _).alloc _).alloc _
  have hB := Blk.new (w.alloc (.cells #[.bool t, .int .i64 n, .string s] 49)) 49 #[.bool false, .int .i64 0, .string ⟨#[]⟩]
  rw [World.size_alloc] at hB
  have hw := h.keep hk (fun _ _ _ h => h)
  have hA : A < w.heap.size := by obtain ⟨v, h1, _⟩ := h; exact h1.lt
  unfold itemV
  cases t with
  | true =>
    have hc := rtext_any hw hb
    rw [show rdI L e true = (⟨true, 0, strOf (rdT L e).1⟩, (rdT L e).2.1, (rdT L e).2.2) from rfl]
    generalize rdT L e = T at *
    obtain ⟨rs, rl, re⟩ := T
    simp only at hc ⊢
    have K := Lib.hid hk
    have B := Lib.hid hB
    clear hk hw hB
    go_enter Try.func35, Try.ntmps35
    go_wp2_with fail
    refine hc.mono ?_
    rintro e' w1 ⟨rfl, hr, hk1⟩
    have b1 := hk1.blk (fun h => by omega) B.out
    have d0 : _ = some _ := b1.cell' (i := 0) rfl
    have d1 : _ = some _ := b1.cell' (i := 1) rfl
    have d2 : _ = some _ := b1.cell' (i := 2) rfl
    have f0 := b1.frozen 0
    have f1 := b1.frozen 1
    have f2 := b1.frozen 2
    have HR := Lib.hid hr
    have KK := Lib.hid ((K.out.mono (fun _ _ h => h.elim)).trans hk1 (fun _ _ h => h))
    clear b1 hr hk1 hc
    go_wp2_with fail
    refine bodyPost_ret (v := .agg #[.bool true, .int .i64 0, .string (strOf rs)]) (by simp [results, Try.results35, go_sem, d0, d1, d2]) rfl ⟨rfl, HR.out.keep set3r (fun b hb _ hS => by have := hF b hb; have h : b = w.heap.size + 1 := hS; omega), KK.out.trans set3r (fun b hb h => by have h : b = w.heap.size + 1 := h; omega)⟩
  | false =>
    have hc := rnum_any hw hb
    rw [show rdI L e false = (⟨false, (rdN L e).1, ⟨#[]⟩⟩, (rdN L e).2.1, (rdN L e).2.2) from rfl]
    generalize rdN L e = T at *
    obtain ⟨rs, rl, re⟩ := T
    simp only at hc ⊢
    have K := Lib.hid hk
    have B := Lib.hid hB
    clear hk hw hB
    go_enter Try.func35, Try.ntmps35
    go_wp2_with fail
    refine hc.mono ?_
    rintro e' w1 ⟨rfl, hr, hk1⟩
    have b1 := hk1.blk (fun h => by omega) B.out
    have d0 : _ = some _ := b1.cell' (i := 0) rfl
    have d1 : _ = some _ := b1.cell' (i := 1) rfl
    have d2 : _ = some _ := b1.cell' (i := 2) rfl
    have f0 := b1.frozen 0
    have f1 := b1.frozen 1
    have f2 := b1.frozen 2
    have HR := Lib.hid hr
    have KK := Lib.hid ((K.out.mono (fun _ _ h => h.elim)).trans hk1 (fun _ _ h => h))
    clear b1 hr hk1 hc
    go_wp2_with fail
    refine bodyPost_ret (v := .agg #[.bool false, .int .i64 rs, .string ⟨#[]⟩]) (by simp [results, Try.results35, go_sem, d0, d1, d2]) rfl ⟨rfl, HR.out.keep set3r (fun b hb _ hS => by have := hF b hb; have h : b = w.heap.size + 1 := hS; omega), KK.out.trans set3r (fun b hb h => by have h : b = w.heap.size + 1 := h; omega)⟩
set_option maxRecDepth 100000 in
theorem take_nil (w : World) (x : Item) : Calls Try.prog 35 #[.pointer none, itemV x] w fun e' w' => e' = .returned (itemV ⟨x.text, 0, ⟨#[]⟩⟩) ∧ Grew w w' := by
  obtain ⟨t, n, s⟩ := x
  unfold itemV
  cases t with
  | true =>
    have G := Lib.hid (((Grew.refl w).alloc (.cells #[.bool true, .int .i64 n, .string s] 49)).alloc (.cells #[.bool true, .int .i64 0, .string ⟨#[]⟩] 49))
    go_enter Try.func35, Try.ntmps35
    go_wp2_with fail
    refine (rtext_nil _).mono ?_
    rintro e' w1 ⟨rfl, rfl⟩
    go_wp2_with fail
    refine bodyPost_ret (v := .agg #[.bool true, .int .i64 0, .string ⟨#[]⟩]) (by simp [results, Try.results35, go_sem] <;> rfl) rfl ⟨rfl, G.out⟩
  | false =>
    have G := Lib.hid (((Grew.refl w).alloc (.cells #[.bool false, .int .i64 n, .string s] 49)).alloc (.cells #[.bool false, .int .i64 0, .string ⟨#[]⟩] 49))
    go_enter Try.func35, Try.ntmps35
    go_wp2_with fail
    refine (rnum_nil _).mono ?_
    rintro e' w1 ⟨rfl, rfl⟩
    go_wp2_with fail
    refine bodyPost_ret (v := .agg #[.bool false, .int .i64 0, .string ⟨#[]⟩]) (by simp [results, Try.results35, go_sem] <;> rfl) rfl ⟨rfl, G.out⟩
set_option maxRecDepth 100000 in
set_option maxHeartbeats 4000000 in
theorem taken_any {w : World} {a : Option Addr} {c : Nat} {L : List UInt8} (h : SlAt byteE w (.slice a L.length c) L) (hb : L.length ≤ 1000000000) (p : Nat) (hp : p ≤ L.length) (e : Int) (x : Item) :
    Calls Try.prog 36 #[.agg #[.slice a L.length c, .int .i64 p, .int .i64 e], itemV x] w fun e' w' => e' = .returned (.tuple #[itemV (rtI L p e x.text).1, .agg #[.slice a L.length c, .int .i64 (rtI L p e x.text).2.1, .int .i64 (rtI L p e x.text).2.2]]) ∧ Grew w w' := by
  obtain ⟨t, n, s⟩ := x
  have hg0 : Grew w ((((w.alloc (.cells #[.slice a L.length c, .int .i64 p, .int .i64 e] 63)).alloc (.cells #[.bool t, .int .i64 n, .string s] 49)).alloc (.cells #[.bool false, .int .i64 0, .string ⟨#[]⟩] 49)).alloc (.cells #[.slice none 0 0, .int .i64 0, .int .i64 0] 63)) := ((((Grew.refl _).alloc _).alloc _).alloc _).alloc _
  have hB4 := (Blk.new ((w.alloc (.cells #[.slice a L.length c, .int .i64 p, .int .i64 e] 63)).alloc (.cells #[.bool t, .int .i64 n, .string s] 49)) 49 #[.bool false, .int .i64 0, .string ⟨#[]⟩]).alloc (.cells #[.slice none 0 0, .int .i64 0, .int .i64 0] 63)
  have hB5 := Blk.new (((w.alloc (.cells #[.slice a L.length c, .int .i64 p, .int .i64 e] 63)).alloc (.cells #[.bool t, .int .i64 n, .string s] 49)).alloc (.cells #[.bool false, .int .i64 0, .string ⟨#[]⟩] 49)) 63 #[.slice none 0 0, .int .i64 0, .int .i64 0]
  rw [World.size_alloc, World.size_alloc, World.size_alloc] at hB5
  rw [World.size_alloc, World.size_alloc] at hB4
  have hw := h.kept hg0.kept
  clear h
  unfold itemV
  cases t with
  | true =>
    have hc := rrtext_any hw hb p hp e
    rw [show rtI L p e true = (⟨true, 0, strOf (rtT L p e).1⟩, (rtT L p e).2.1, (rtT L p e).2.2) from rfl]
    generalize rtT L p e = T at *
    obtain ⟨rs, rp, re⟩ := T
    simp only at hc ⊢
    have G0 := Lib.hid hg0
    have B4 := Lib.hid hB4
    have B5 := Lib.hid hB5
    clear hg0 hw hB4 hB5
    go_enter Try.func36, Try.ntmps36
    go_wp2_with fail
    refine hc.mono ?_
    rintro e' w1 ⟨rfl, hg⟩
    have b4 := hg.box B4.out
    have b5 := hg.box B5.out
    have d40 : _ = some _ := b4.cell' (i := 0) rfl
    have d41 : _ = some _ := b4.cell' (i := 1) rfl
    have d42 : _ = some _ := b4.cell' (i := 2) rfl
    have d50 : _ = some _ := b5.cell' (i := 0) rfl
    have d51 : _ = some _ := b5.cell' (i := 1) rfl
    have d52 : _ = some _ := b5.cell' (i := 2) rfl
    have f40 := b4.frozen 0
    have f41 := b4.frozen 1
    have f42 := b4.frozen 2
    have f50 := b5.frozen 0
    have f51 := b5.frozen 1
    have f52 := b5.frozen 2
    have hz5 : w.heap.size + 1 + 1 + 1 < w1.heap.size := b5.lt
    have hz4 : w.heap.size + 1 + 1 < w1.heap.size := b4.lt
    have GG := Lib.hid (G0.out.trans hg)
    clear hg b4 b5 hc
    go_wp2_with fail
    go_region
    go_wp2_with fail
    refine bodyPost_ret (v := .tuple #[.agg #[.bool true, .int .i64 0, .string (strOf rs)], .agg #[.slice a L.length c, .int .i64 rp, .int .i64 re]]) (by simp [results, Try.results36, go_sem, d40, d41, d42, d50, d51, d52, hz4, hz5]) rfl ⟨rfl, ?_⟩
    exact (((((((GG.out.setCell (by simp <;> omega) _).setCell (by simp <;> omega) _).setCell (by simp <;> omega) _).setCell (by simp <;> omega) _).setCell (by simp <;> omega) _).setCell (by simp <;> omega) _).alloc _).drew
  | false =>
    have hc := rrnum_any hw hb p hp e
    rw [show rtI L p e false = (⟨false, (rtN L p e).1, ⟨#[]⟩⟩, (rtN L p e).2.1, (rtN L p e).2.2) from rfl]
    generalize rtN L p e = T at *
    obtain ⟨rs, rp, re⟩ := T
    simp only at hc ⊢
    have G0 := Lib.hid hg0
    have B4 := Lib.hid hB4
    have B5 := Lib.hid hB5
    clear hg0 hw hB4 hB5
    go_enter Try.func36, Try.ntmps36
    go_wp2_with fail
    refine hc.mono ?_
    rintro e' w1 ⟨rfl, hg⟩
    have b4 := hg.box B4.out
    have b5 := hg.box B5.out
    have d40 : _ = some _ := b4.cell' (i := 0) rfl
    have d41 : _ = some _ := b4.cell' (i := 1) rfl
    have d42 : _ = some _ := b4.cell' (i := 2) rfl
    have d50 : _ = some _ := b5.cell' (i := 0) rfl
    have d51 : _ = some _ := b5.cell' (i := 1) rfl
    have d52 : _ = some _ := b5.cell' (i := 2) rfl
    have f40 := b4.frozen 0
    have f41 := b4.frozen 1
    have f42 := b4.frozen 2
    have f50 := b5.frozen 0
    have f51 := b5.frozen 1
    have f52 := b5.frozen 2
    have hz5 : w.heap.size + 1 + 1 + 1 < w1.heap.size := b5.lt
    have hz4 : w.heap.size + 1 + 1 < w1.heap.size := b4.lt
    have GG := Lib.hid (G0.out.trans hg)
    clear hg b4 b5 hc
    go_wp2_with fail
    go_region
    go_wp2_with fail
    refine bodyPost_ret (v := .tuple #[.agg #[.bool false, .int .i64 rs, .string ⟨#[]⟩], .agg #[.slice a L.length c, .int .i64 rp, .int .i64 re]]) (by simp [results, Try.results36, go_sem, d40, d41, d42, d50, d51, d52, hz4, hz5]) rfl ⟨rfl, ?_⟩
    exact (((((((GG.out.setCell (by simp <;> omega) _).setCell (by simp <;> omega) _).setCell (by simp <;> omega) _).setCell (by simp <;> omega) _).setCell (by simp <;> omega) _).setCell (by simp <;> omega) _).alloc _).drew
end Go.Proofs.Ytdbnohlignpeaaa.St
