/- hearsayref6: Number, Text. -/
import Derived.Test.YtdbnohlignpeaaaStMuch
import Derived.Test.YtdbnohlignpeaaaStRowApp
import Derived.Test.YtdbnohlignpeaaaStWrite2
namespace Go.Proofs.Ytdbnohlignpeaaa.St
open Go.RowKit

/-- what a Writer has laid, and its error -/
def layN (s : List UInt8 × Int) (n : Int) : List UInt8 × Int := if s.2 ≠ 0 then s else if n < 0 then (s.1, 1) else (s.1 ++ numL n.toNat, 0)
def layT (s : List UInt8 × Int) (x : ByteArray) : List UInt8 × Int := if s.2 ≠ 0 then s else (s.1 ++ numL x.size ++ x.data.toList, 0)
def layI (s : List UInt8 × Int) (x : Item) : List UInt8 × Int := if x.text then layT s x.s else layN s x.n
theorem byte_mod {u : Nat} : ((UInt8.ofNat (u % 128 + 128)).toNat : Int) = (u : Int) % 128 + 128 := by rw [ofNat_toNat (by omega)]; omega
set_option maxRecDepth 100000 in
theorem rwnum_err {w : World} {b : Option Addr} {n c : Nat} {e : Int} (he : e ≠ 0) (m : Int) :
    Calls Try.prog 67 #[.agg #[.slice b n c, .int .i64 e], .int .i64 m] w fun e' w' => e' = .returned (.agg #[.slice b n c, .int .i64 e]) ∧ Grew w w' := by
  have hb : (e != 0) = true := by simpa using he
  have hg := Grew.alloc (Grew.alloc (Grew.refl w) (.cells #[.slice b n c, .int .i64 e] 56)) (.cells #[.slice b n c, .int .i64 e] 56)
  have G := Lib.hid hg
  clear hg he
  go_enter Try.func67, Try.ntmps67
  go_wp2_with fail
  refine bodyPost_ret (v := .agg #[.slice b n c, .int .i64 e]) (by simp [results, Try.results67, go_sem]) rfl ⟨rfl, G.out⟩
set_option maxRecDepth 100000 in
theorem rwnum_neg {w : World} {b : Option Addr} {n c : Nat} {m : Int} (hm : m < 0) :
    Calls Try.prog 67 #[.agg #[.slice b n c, .int .i64 0], .int .i64 m] w fun e' w' => e' = .returned (.agg #[.slice b n c, .int .i64 1]) ∧ Grew w w' := by
  have hg := Grew.alloc (Grew.alloc (Grew.refl w) (.cells #[.slice b n c, .int .i64 1] 56)) (.cells #[.slice b n c, .int .i64 1] 56)
  have G := Lib.hid hg
  clear hg
  go_enter Try.func67, Try.ntmps67
  go_wp2_with fail
  refine bodyPost_ret (v := .agg #[.slice b n c, .int .i64 1]) (by simp [results, Try.results67, go_sem]) rfl ⟨rfl, G.out⟩
set_option maxRecDepth 100000 in
set_option maxHeartbeats 4000000 in
theorem rwnum_ok {w : World} {v : Value} {bs : List UInt8} (h : SlAt byteE w v bs) (n : Nat) (hn : n ≤ 9223372036854775807) (hb : bs.length ≤ 10000000) :
    Calls Try.prog 67 #[.agg #[v, .int .i64 0], .int .i64 n] w fun e' w' => ∃ v', e' = .returned (.agg #[v', .int .i64 0]) ∧ SlAt byteE w' v' (bs ++ numL n) ∧ Kept (fun _ => False) w w' ∧ ∀ b, v'.ownBlock = some b → w.heap.size ≤ b ∧ b < w'.heap.size := by
  obtain ⟨a, c, rfl, _, _⟩ := h.sl
  obtain ⟨i0, hi, hz0, hz1, hz2⟩ := info_parts info_u8
  have I := Lib.hid hi
  have Z0 := Lib.hid hz0
  have Z1 := Lib.hid hz1
  have Z2 := Lib.hid hz2
  have hn0 : (0 : Int) ≤ n := by omega
  have hk0 : Kept (fun _ => False) w ((w.alloc (.cells #[.slice a bs.length c, .int .i64 0] 56)).alloc (.cells #[.slice none 0 0, .int .i64 0] 56)) := ((Kept.refl _ _).alloc _).alloc _
  have hB0 := (Blk.new w 56 #[.slice a bs.length c, .int .i64 0]).alloc (.cells #[.slice none 0 0, .int .i64 0] 56)
  have hB1 := Blk.new (w.alloc (.cells #[.slice a bs.length c, .int .i64 0] 56)) 56 #[.slice none 0 0, .int .i64 0]
  rw [World.size_alloc] at hB1
  have K0 := Lib.hid hk0
  have B0 := Lib.hid hB0
  have B1 := Lib.hid hB1
  have HS := Lib.hid h
  clear hi hz0 hz1 hz2 hk0 hB0 hB1 h
  go_enter Try.func67, Try.ntmps67
  go_wp2_with (at_builtin; (refine wpList_append_row byteE rfl (.tmp 14) (.tmp 16) 44 rfl (w.heap.size + 2) 5 (.int .u8 0) 1 Try.underlying44 info_u8 rfl rfl rfl (D := []) (World.ownsRow_nil _ _ _ _) (HS.out.kept K0.out) (by unfold maxLen; simp; omega) (by simp; omega) (by simp) ?_); intro v1 w1 ho1 hk1; rw [List.nil_append] at ho1; obtain ⟨a1, c1, rfl⟩ := owns_sl ho1; have C0 := hk1.blk (fun h => by cases h) B0.out; have C1 := hk1.blk (fun h => by cases h) B1.out; have K1 := Lib.hid (K0.out.over hk1 (fun b hb => by cases hb)); have O1 := Lib.hid ho1; have D0 := Lib.hid C0; have D1 := Lib.hid C1; clear hk1 ho1 C0 C1)
  go_loopw [1, 5] (fun uv bv wr => ∃ (u : Nat) (bs' : List UInt8), uv = .int .i64 u ∧ u ≤ n ∧ bs' ++ numL u = bs ++ numL n ∧ wr.ownsRow (w.heap.size + 2) 5 1 bv bs'.length (byteE.flat bs') ∧ Blk wr w.heap.size 56 #[.slice a bs.length c, .int .i64 0] ∧ Blk wr (w.heap.size + 1) 56 #[.slice none 0 0, .int .i64 0] ∧ Kept (fun _ => False) w wr) (fun uv _ _ => (intOf uv).toNat)
  case atStart => exact ⟨n, bs, rfl, Nat.le_refl _, rfl, O1.out, D0.out, D1.out, K1.out⟩
  case round =>
    clear O1 D0 D1 K1
    obtain ⟨u, bs', rfl, hu, hbs, h2, hb0, hb1, hk⟩ := hrel
    obtain ⟨va, vc, rfl⟩ := owns_sl h2
    have hu0 : (0 : Int) ≤ u := by omega
    have hu1 : (u : Int) ≤ 9223372036854775807 := by omega
    have hlen : bs'.length ≤ 10000100 := by have := congrArg List.length hbs; have := numL_len 9 n (by omega) (by omega); simp at *; omega
    have h63 : bs'.length + 1 ≤ maxLen := by unfold maxLen; omega
    have hby : (bs'.length + 1) * 1 ≤ 140737488355328 := by omega
    have hsz : w.heap.size + 2 ≤ wr.heap.size := by have := hb1.lt; omega
    have hnew := owns_new h2
    have H2 := Lib.hid h2
    have HB0 := Lib.hid hb0
    have HB1 := Lib.hid hb1
    have KK := Lib.hid hk
    have BS := Lib.hid hbs
    clear h2 hb0 hb1 hk hlen hbs
    by_cases h128 : 128 ≤ u
    · have hd : (128 : Int) ≤ u := by omega
      obtain ⟨b, hbb⟩ : ∃ b, b = UInt8.ofNat (u % 128 + 128) := ⟨_, rfl⟩
      have hbit : (u : Int) % 128 + 128 = (b.toNat : Int) := by rw [hbb]; exact byte_mod.symm
      have BB := Lib.hid hbb
      have LIT := Lib.hid (SlAt.lit (E := byteE) (w := wr) (t := 5) [b] #[.int .u8 (b.toNat : Int)] (by rfl) (by unfold maxLen; simp))
      clear hbb
      go_wp2_with (at_builtin; ((refine wpList_append_row byteE rfl (.tmp 20) (.tmp 25) 44 rfl (w.heap.size + 2) 5 (.int .u8 0) 1 Try.underlying44 info_u8 rfl rfl rfl (D := bs') (H2.out.alloc _) LIT.out (by simpa using h63) (by simpa using hby) (by simp; omega) ?_); intro v2 w2 ho2 hk20; have hk2 : Kept (fun b => (Value.slice va bs'.length vc).ownBlock = some b) _ w2 := hk20; clear hk20; rw [List.length_append] at ho2; obtain ⟨a2, c2, rfl⟩ := owns_sl ho2; have e0 := hk2.blk (fun e => by have := hnew _ e; omega) (HB0.out.alloc _); have e1 := hk2.blk (fun e => by have := hnew _ e; omega) (HB1.out.alloc _); have K2 := Lib.hid ((KK.out.alloc _).over hk2 (fun b e => by have := hnew _ e; omega)); have O2 := Lib.hid ho2; have d00 : _ = some _ := e0.cell' (i := 0) rfl; have d01 : _ = some _ := e0.cell' (i := 1) rfl; have f00 := e0.frozen 0; have d10 : _ = some _ := e1.cell' (i := 0) rfl; have d11 : _ = some _ := e1.cell' (i := 1) rfl; have f10 := e1.frozen 0; have f11 := e1.frozen 1; have E0 := Lib.hid e0; have E1 := Lib.hid e1; clear hk2 ho2 e0 e1))
      go_roundw
      case rel =>
        refine ⟨u / 128, bs' ++ [b], by go_num, by omega, ?_, by rw [List.length_append]; exact O2.out, E0.out, E1.out, K2.out⟩
        rw [List.append_assoc, ← BS.out, numL_ge (v := u) (by omega), BB.out]
        rfl
      case measure => simp [intOf]; omega
    · have hd : ¬ (128 : Int) ≤ u := by omega
      obtain ⟨b, hbb⟩ : ∃ b, b = UInt8.ofNat u := ⟨_, rfl⟩
      have hbit : (u : Int) = (b.toNat : Int) := by rw [hbb, ofNat_toNat (by omega)]
      have BB := Lib.hid hbb
      have BI := Lib.hid hbit
      have LIT := Lib.hid (SlAt.lit (E := byteE) (w := wr) (t := 5) [b] #[.int .u8 (b.toNat : Int)] (by rfl) (by unfold maxLen; simp))
      rw [← hbit] at LIT
      clear hbb hbit
      go_wp2_with (at_builtin; ((refine wpList_append_row byteE rfl (.tmp 29) (.tmp 32) 44 rfl (w.heap.size + 2) 5 (.int .u8 0) 1 Try.underlying44 info_u8 rfl rfl rfl (D := bs') (H2.out.alloc _) LIT.out (by simpa using h63) (by simpa using hby) (by simp; omega) ?_); intro v2 w2 ho2 hk20; have hk2 : Kept (fun b => (Value.slice va bs'.length vc).ownBlock = some b) _ w2 := hk20; clear hk20; rw [List.length_append] at ho2; obtain ⟨a2, c2, rfl⟩ := owns_sl ho2; have e0 := hk2.blk (fun e => by have := hnew _ e; omega) (HB0.out.alloc _); have e1 := hk2.blk (fun e => by have := hnew _ e; omega) (HB1.out.alloc _); have K2 := Lib.hid ((KK.out.alloc _).over hk2 (fun b e => by have := hnew _ e; omega)); have O2 := Lib.hid ho2; have d00 : _ = some _ := e0.cell' (i := 0) rfl; have d01 : _ = some _ := e0.cell' (i := 1) rfl; have f00 := e0.frozen 0; have d10 : _ = some _ := e1.cell' (i := 0) rfl; have d11 : _ = some _ := e1.cell' (i := 1) rfl; have f10 := e1.frozen 0; have f11 := e1.frozen 1; have E0 := Lib.hid e0; have E1 := Lib.hid e1; clear hk2 ho2 e0 e1))
      refine bodyPost_ret (v := .agg #[.slice a2 (bs'.length + 1) c2, .int .i64 0]) (by simp [results, Try.results67, go_sem, d10, d11]) rfl ?_
      have hfin : bs' ++ [b] = bs ++ numL n := by rw [← BS.out, numL_lt (v := u) (by omega), BB.out]
      have hka : Kept (fun i => i < w.heap.size + 2) w2 (((w2.setCell ⟨w.heap.size, 0, none⟩ (.slice a2 (bs'.length + 1) c2)).setCell ⟨w.heap.size + 1, 0, none⟩ (.slice a2 (bs'.length + 1) c2)).setCell ⟨w.heap.size + 1, 1, none⟩ (.int .i64 0)) :=
        (((Kept.refl _ w2).setCell (fun _ => by simp) _).setCell (fun _ => by simp) _).setCell (fun _ => by simp) _
      refine ⟨_, rfl, ?_, ((K2.out.setCell (fun h => by simp at h) _).setCell (fun h => by simp at h; omega) _).setCell (fun h => by simp at h; omega) _, fun i hi => ⟨by have := owns_new O2.out _ hi; omega, Nat.lt_of_lt_of_le (O2.out.lt _ hi).2 hka.size⟩⟩
      rw [← hfin]
      have hs := owns_slAt (E := byteE) (D := bs' ++ [b]) O2.out
      exact hs.keep hka (fun i hi _ hlt => by have := owns_new O2.out _ hi; omega)
theorem layN_err {s : List UInt8 × Int} {n : Int} (h : s.2 ≠ 0) : layN s n = s := by unfold layN; rw [if_pos h]
theorem layN_neg {bs : List UInt8} {n : Int} (h : n < 0) : layN (bs, 0) n = (bs, 1) := by unfold layN; rw [if_neg (by simp), if_pos h]
theorem layN_ok {bs : List UInt8} {n : Nat} : layN (bs, 0) n = (bs ++ numL n, 0) := by unfold layN; rw [if_neg (by simp), if_neg (by omega)]; rfl
theorem layN_len (s : List UInt8 × Int) (n : Int) (hn : n ≤ 9223372036854775807) : (layN s n).1.length ≤ s.1.length + 9 := by
  unfold layN
  split
  · omega
  · split
    · simp
    · have := numL_len 9 n.toNat (by omega) (by omega); simp; omega
theorem layT_len (s : List UInt8 × Int) (x : ByteArray) (hn : x.size ≤ 9223372036854775807) : (layT s x).1.length ≤ s.1.length + 9 + x.size := by
  unfold layT
  split
  · omega
  · have := numL_len 9 x.size (by omega) (by omega); simp; omega
/-- the document's Number, at a Writer's value -/
theorem rwnum_any {w : World} {v : Value} {bs : List UInt8} {e : Int} (h : SlAt byteE w v bs) (hb : bs.length ≤ 10000000) (n : Int) (hn : I64 n) :
    Calls Try.prog 67 #[.agg #[v, .int .i64 e], .int .i64 n] w fun e' w' => ∃ v', e' = .returned (.agg #[v', .int .i64 (layN (bs, e) n).2]) ∧ SlAt byteE w' v' (layN (bs, e) n).1 ∧ Kept (fun _ => False) w w' ∧ (v' = v ∨ ∀ b, v'.ownBlock = some b → w.heap.size ≤ b ∧ b < w'.heap.size) := by
  obtain ⟨a, c, rfl, _, _⟩ := h.sl
  by_cases he : e = 0
  · subst he
    by_cases hm : n < 0
    · rw [layN_neg hm]
      exact (rwnum_neg hm).mono fun _ _ ⟨h1, h2⟩ => ⟨_, h1, h.kept h2.kept, h2.kept, .inl rfl⟩
    · obtain ⟨m, rfl⟩ : ∃ m : Nat, n = m := ⟨n.toNat, by omega⟩
      rw [layN_ok]
      exact (rwnum_ok h m (by have := hn.2; omega) hb).mono fun _ _ ⟨v', h1, h2, h3, h4⟩ => ⟨v', h1, h2, h3, .inr h4⟩
  · rw [layN_err (s := (bs, e)) he]
    exact (rwnum_err he n).mono fun _ _ ⟨h1, h2⟩ => ⟨_, h1, h.kept h2.kept, h2.kept, .inl rfl⟩
set_option maxRecDepth 100000 in
theorem set2 {w1 : World} {k : Nat} {a b : Value} : Kept (fun i => k ≤ i ∧ i < k + 2) w1 ((w1.setCell ⟨k, 0, none⟩ a).setCell ⟨k, 1, none⟩ b) :=
  ((Kept.refl _ w1).setCell (fun _ => by simp) _).setCell (fun _ => by simp) _
theorem set3 {w1 : World} {k : Nat} {a b c : Value} : Kept (fun i => k ≤ i ∧ i < k + 2) w1 (((w1.setCell ⟨k, 0, none⟩ a).setCell ⟨k + 1, 0, none⟩ b).setCell ⟨k + 1, 1, none⟩ c) :=
  (((Kept.refl _ w1).setCell (fun _ => by simp) _).setCell (fun _ => by simp) _).setCell (fun _ => by simp) _
theorem set4 {w1 : World} {k : Nat} {a b c d : Value} : Kept (fun i => k ≤ i ∧ i < k + 2) w1 ((((w1.setCell ⟨k, 0, none⟩ a).setCell ⟨k, 1, none⟩ b).setCell ⟨k + 1, 0, none⟩ c).setCell ⟨k + 1, 1, none⟩ d) :=
  ((((Kept.refl _ w1).setCell (fun _ => by simp) _).setCell (fun _ => by simp) _).setCell (fun _ => by simp) _).setCell (fun _ => by simp) _
theorem rwtext_err {w : World} {v : Value} {bs : List UInt8} {e : Int} (h : SlAt byteE w v bs) (hb : bs.length ≤ 10000000) (he : e ≠ 0) (x : ByteArray) (hx : x.size ≤ 9223372036854775807) :
    Calls Try.prog 66 #[.agg #[v, .int .i64 e], .string x] w fun e' w' => ∃ v', e' = .returned (.agg #[v', .int .i64 e]) ∧ SlAt byteE w' v' bs ∧ Kept (fun _ => False) w w' ∧ (v' = v ∨ ∀ b, v'.ownBlock = some b → w.heap.size ≤ b ∧ b < w'.heap.size) := by
  have hk0 : Kept (fun _ => False) w ((w.alloc (.cells #[v, .int .i64 e] 56)).alloc (.cells #[.slice none 0 0, .int .i64 0] 56)) := ((Kept.refl _ _).alloc _).alloc _
  have hc := rwnum_any (e := e) (h.kept hk0) hb x.size ⟨by omega, by omega⟩
  rw [layN_err (s := (bs, e)) he] at hc
  have hne : (e != 0) = true := by simpa using he
  have hB0 := (Blk.new w 56 #[v, .int .i64 e]).alloc (.cells #[.slice none 0 0, .int .i64 0] 56)
  have hB1 := Blk.new (w.alloc (.cells #[v, .int .i64 e] 56)) 56 #[.slice none 0 0, .int .i64 0]
  rw [World.size_alloc] at hB1
  have K0 := Lib.hid hk0
  have B0 := Lib.hid hB0
  have B1 := Lib.hid hB1
  obtain ⟨a, c, rfl, _, _⟩ := h.sl
  clear hk0 hB0 hB1 he
  have HQ := Lib.hid h
  clear h
  go_enter Try.func66, Try.ntmps66
  go_wp2_with fail
  refine hc.mono ?_
  rintro e' w1 ⟨v1, rfl, hs, hk, hv⟩
  obtain ⟨a1, c1, rfl, _, _⟩ := hs.sl
  have b0 := hk.blk (fun h => h) B0.out
  have b1 := hk.blk (fun h => h) B1.out
  have c00 : _ = some _ := b0.cell' (i := 0) rfl
  have c01 : _ = some _ := b0.cell' (i := 1) rfl
  have f00 := b0.frozen 0
  have f01 := b0.frozen 1
  have c10 : _ = some _ := b1.cell' (i := 0) rfl
  have c11 : _ = some _ := b1.cell' (i := 1) rfl
  have f10 := b1.frozen 0
  have f11 := b1.frozen 1
  have HS := Lib.hid hs
  have KK := Lib.hid (K0.out.trans hk (fun _ _ h => h))
  clear hs hk b0 b1 hc
  go_wp2_with fail
  refine bodyPost_ret (v := .agg #[.slice a1 bs.length c1, .int .i64 e]) (by simp [results, Try.results66, go_sem, c10, c11]) rfl ?_
  refine ⟨_, rfl, ?_, KK.out.over set4 (fun b hb => by omega), hv.imp id (fun hv b hb => ⟨by have := hv b hb; simp at this; omega, Nat.lt_of_lt_of_le (hv b hb).2 set4.size⟩)⟩
  rcases hv with e1 | hv
  · rw [e1] at HS ⊢
    exact HQ.out.far HS.out set4 (fun b hb => by omega)
  · exact HS.out.keep set4 (fun b hb _ hS => by have := hv b hb; simp at this; omega)
set_option maxRecDepth 100000 in
set_option maxHeartbeats 4000000 in
theorem rwtext_ok {w : World} {v : Value} {bs : List UInt8} (h : SlAt byteE w v bs) (hb : bs.length ≤ 1000000) (x : ByteArray) (hx : x.size ≤ 1000000) :
    Calls Try.prog 66 #[.agg #[v, .int .i64 0], .string x] w fun e' w' => ∃ v', e' = .returned (.agg #[v', .int .i64 0]) ∧ SlAt byteE w' v' (bs ++ numL x.size ++ x.data.toList) ∧ Kept (fun _ => False) w w' ∧ ∀ b, v'.ownBlock = some b → w.heap.size ≤ b ∧ b < w'.heap.size := by
  obtain ⟨i0, hi, hz0, hz1, hz2⟩ := info_parts info_u8
  have I := Lib.hid hi
  have Z0 := Lib.hid hz0
  have Z1 := Lib.hid hz1
  have Z2 := Lib.hid hz2
  have hk0 : Kept (fun _ => False) w ((w.alloc (.cells #[v, .int .i64 0] 56)).alloc (.cells #[.slice none 0 0, .int .i64 0] 56)) := ((Kept.refl _ _).alloc _).alloc _
  have hc := rwnum_ok (h.kept hk0) x.size (by omega) (by omega)
  have hB0 := (Blk.new w 56 #[v, .int .i64 0]).alloc (.cells #[.slice none 0 0, .int .i64 0] 56)
  have hB1 := Blk.new (w.alloc (.cells #[v, .int .i64 0] 56)) 56 #[.slice none 0 0, .int .i64 0]
  rw [World.size_alloc] at hB1
  have K0 := Lib.hid hk0
  have B0 := Lib.hid hB0
  have B1 := Lib.hid hB1
  obtain ⟨a, c, rfl, _, _⟩ := h.sl
  have hl1 : (bs ++ numL x.size).length ≤ 1000010 := by have := numL_len 9 x.size (by omega) (by omega); simp; omega
  have BL : Hid ((bs ++ numL x.size ++ x.data.toList).length = (bs ++ numL x.size).length + x.size) := by show (bs ++ numL x.size ++ x.data.toList).length = _; rw [List.length_append, size_data]
  clear hk0 hB0 hB1 hi hz0 hz1 hz2 h
  generalize hcs : bs ++ numL x.size = cs at *
  have CS := Lib.hid hcs
  have hl2 : cs.length + x.size ≤ 1000000000 := by omega
  clear hcs
  go_enter Try.func66, Try.ntmps66
  go_wp2_with fail
  refine hc.mono ?_
  rintro e' w1 ⟨v1, rfl, hs, hk, hv⟩
  obtain ⟨a1, c1, rfl, _, _⟩ := hs.sl
  have b0 := hk.blk (fun h => h) B0.out
  have b1 := hk.blk (fun h => h) B1.out
  have c00 : _ = some _ := b0.cell' (i := 0) rfl
  have c01 : _ = some _ := b0.cell' (i := 1) rfl
  have f00 := b0.frozen 0
  have f01 := b0.frozen 1
  have hz : w.heap.size + 2 ≤ w1.heap.size := by have := b1.lt; omega
  have B0' := Lib.hid b0
  have B1' := Lib.hid b1
  have HS := Lib.hid hs
  have HV := Lib.hid hv
  have KK := Lib.hid (K0.out.trans hk (fun _ _ h => h))
  clear hs hk b0 b1 hc hv K0 B0 B1
  have BB0 := Lib.hid ((B0'.out.set_ 0 (.slice a1 cs.length c1)).set_ 1 (.int .i64 0))
  have BB1 := Lib.hid ((B1'.out.far (p := ⟨w.heap.size, 0, none⟩) (by simp) (.slice a1 cs.length c1)).far (p := ⟨w.heap.size, 1, none⟩) (by simp) (.int .i64 0))
  have KS := Lib.hid (KK.out.over (set2 (k := w.heap.size) (a := .slice a1 cs.length c1) (b := .int .i64 0)) (fun b hb => by omega))
  go_wp2_with (first
    | (at_builtin; ((refine wpList_append_string_at rfl (.tmp 18) (.tmp 19) 44 9 rfl (w.heap.size + 2) 5 i0 Try.underlying44 Try.underlying9 I.out Z0.out Z1.out Z2.out _ _ _ rfl O2.out x rfl hl2 hz2 ?_); intro v3 w3 ho3 hg30 _; have hg3 : World.grownBy w2 w3 (Value.slice a2 cs.length c2).ownBlock := hg30; clear hg30; obtain ⟨a3, c3, rfl⟩ := owns_sl ho3; have hk3 := Kept.grown (Kept.refl (fun b => (Value.slice a2 cs.length c2).ownBlock = some b) w2) hg3 (fun k e _ => e); have e0 := hk3.blk (fun e => by have := hnew _ e; omega) C0.out; have e1 := hk3.blk (fun e => by have := hnew _ e; omega) C1.out; have d00 : _ = some _ := e0.cell' (i := 0) rfl; have d01 : _ = some _ := e0.cell' (i := 1) rfl; have f20 := e0.frozen 0; have d10 : _ = some _ := e1.cell' (i := 0) rfl; have d11 : _ = some _ := e1.cell' (i := 1) rfl; have f30 := e1.frozen 0; have f31 := e1.frozen 1; have K3 := Lib.hid (K2.out.over hk3 (fun b e => by have := hnew _ e; omega)); have O3 := Lib.hid ho3; clear hk3 hg3 ho3 e0 e1))
    | (at_builtin; ((refine wpList_append_row byteE rfl (.tmp 14) (.tmp 16) 44 rfl (w.heap.size + 2) 5 (.int .u8 0) 1 Try.underlying44 info_u8 rfl rfl rfl (D := []) (World.ownsRow_nil _ _ _ _) (HS.out.keep set2 (fun b hb _ hS => by have := HV.out b hb; simp at this; omega)) (by unfold maxLen; simp; omega) (by simp; omega) (by simp; omega) ?_); intro v2 w2 ho2 hk20; have hk2 : Kept (fun b => (Value.slice none 0 0).ownBlock = some b) _ w2 := hk20; clear hk20; rw [List.nil_append] at ho2; obtain ⟨a2, c2, rfl⟩ := owns_sl ho2; have e0 := hk2.blk (fun e => by cases e) BB0.out; have e1 := hk2.blk (fun e => by cases e) BB1.out; have d00 : _ = some _ := e0.cell' (i := 0) rfl; have hz2 : w.heap.size + 2 ≤ w2.heap.size := (by have := e1.lt; omega); have hnew := owns_new ho2; have K2 := Lib.hid (KS.out.over hk2 (fun b e => by cases e)); have O2 := Lib.hid ho2; have C0 := Lib.hid e0; have C1 := Lib.hid e1; clear hk2 ho2 e0 e1)))
  refine bodyPost_ret (v := .agg #[.slice a3 (cs.length + x.size) c3, .int .i64 0]) (by simp [results, Try.results66, go_sem, d10, d11]) rfl ?_
  have hown : w3.ownsRow (w.heap.size + 2) 5 byteE.k (.slice a3 (cs.length + x.size) c3) (cs.length + x.size) (byteE.flat (cs ++ x.data.toList)) := by
    rw [byteE.flat_append, ← strCells_flat]; exact O3.out
  refine ⟨_, rfl, (owns_slAt hown).keep set3 (fun b hb _ hS => by have := owns_new hown _ hb; omega), K3.out.over set3 (fun b hb => by omega), fun b hb => ⟨by have := owns_new hown _ hb; omega, Nat.lt_of_lt_of_le (hown.lt _ hb).2 set3.size⟩⟩
theorem layT_err {s : List UInt8 × Int} {x : ByteArray} (h : s.2 ≠ 0) : layT s x = s := by unfold layT; rw [if_pos h]
theorem layT_ok {bs : List UInt8} {x : ByteArray} : layT (bs, 0) x = (bs ++ numL x.size ++ x.data.toList, 0) := by unfold layT; rw [if_neg (by simp)]
theorem rwtext_any {w : World} {v : Value} {bs : List UInt8} {e : Int} (h : SlAt byteE w v bs) (hb : bs.length ≤ 1000000) (x : ByteArray) (hx : x.size ≤ 1000000) :
    Calls Try.prog 66 #[.agg #[v, .int .i64 e], .string x] w fun e' w' => ∃ v', e' = .returned (.agg #[v', .int .i64 (layT (bs, e) x).2]) ∧ SlAt byteE w' v' (layT (bs, e) x).1 ∧ Kept (fun _ => False) w w' ∧ (v' = v ∨ ∀ b, v'.ownBlock = some b → w.heap.size ≤ b ∧ b < w'.heap.size) := by
  by_cases he : e = 0
  · subst he
    rw [layT_ok]
    exact (rwtext_ok h hb x hx).mono fun _ _ ⟨v', h1, h2, h3, h4⟩ => ⟨v', h1, h2, h3, .inr h4⟩
  · rw [layT_err (s := (bs, e)) he]
    exact rwtext_err h (by omega) he x (by omega)
end Go.Proofs.Ytdbnohlignpeaaa.St
