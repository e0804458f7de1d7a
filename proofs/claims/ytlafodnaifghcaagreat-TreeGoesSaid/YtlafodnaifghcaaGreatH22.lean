/- hearsayref1: IsRune, Encode, Text. glyph.follows and width. glyph.Count and BadAt. A rune's bytes by the bytes that stand low behind its first one, plainly; a row of pieces. What rune stands at a place, by its bytes. -/
import Derived.Test.YtlafodnaifghcaaGreatH21
import Derived.Test.YtlafodnaifghcaaGreatH5
import Derived.Test.YtlafodnaifghcaaGreatH6
import Derived.Lib.Hide
import Derived.IntWalk
namespace Go.Proofs.YtlafodnaifghcaaGreat.Tr
open Go.RowKit Go.Sort Go.Proofs.YtlafodnaifghcaaGreat.St Go.Proofs.YtlafodnaifghcaaGreat
attribute [local go_sem] Oper.semAt_some
theorem ris_rune {r : Int} (hr : isRuneP r) (w : World) : Calls Tryz.prog 107 #[.int .i32 r] w fun e w' => e = .returned (.bool true) ∧ w' = w := by
  unfold isRuneP at hr
  have h0 : 0 ≤ r := by omega
  have h1 : r ≤ 1114111 := by omega
  by_cases h2 : r < 55296
  · clear hr
    go_enter Tryz.func107, Tryz.ntmps107
    go_wp2_with fail
    go_ret
    exact ⟨rfl, rfl⟩
  · have h3 : 57343 < r := by omega
    clear hr
    go_enter Tryz.func107, Tryz.ntmps107
    go_wp2_with fail
    go_ret
    exact ⟨rfl, rfl⟩
def bE : Enc UInt8 := ⟨1, fun b => [.int .u8 b.toNat], fun _ => rfl, by decide, fun x u hu => by simp at hu; subst hu; rfl⟩
theorem bE_flat (l : List UInt8) : bE.flat l = l.map fun b => Value.int .u8 (b.toNat : Int) := by
  induction l with
  | nil => rfl
  | cons b l ih =>
    show bE.enc b ++ bE.flat l = _
    rw [ih]
    rfl
theorem byte_nums1 (l : List UInt8) : (l.map fun b => ((b.toNat : Nat) : Int)).map (fun n => UInt8.ofNat n.toNat) = l := by
  rw [List.map_map]
  conv => rhs; rw [← List.map_id l]
  apply List.map_congr_left
  intro b _
  show UInt8.ofNat ((b.toNat : Nat) : Int).toNat = b
  simp
theorem fold_push : ∀ (l : List Int) (s : ByteArray), l.foldl (fun r n => r.push (UInt8.ofNat n.toNat)) s = ⟨(s.data.toList ++ l.map fun n => UInt8.ofNat n.toNat).toArray⟩
  | [], s => by cases s; simp
  | n :: l, s => by
    rw [List.foldl_cons, fold_push l]
    simp [ByteArray.push]
theorem conv_bytes1 {w : World} {v : Value} {L : List UInt8} (h : SlAt bE w v L) :
    (convert 103 9 v).run Tryz.prog w = .ok (.string ⟨L.toArray⟩) w := by
  have h0 := h
  rcases h with ⟨rfl, rfl⟩ | ⟨x, d, rfl, h1, h2, h3, h4⟩
  · exact run_convert_bytes_nil (P := Tryz.prog) w 103 5 Tryz.underlying103 Tryz.underlying5 0 0 9 Tryz.underlying9
  · rw [run_convert_bytes_string w 103 9 5 (some x) L.length d Tryz.underlying103 Tryz.underlying5 Tryz.underlying9]
    have hc := (h0.at_).2
    have hl := run_loadCells_list (P := Tryz.prog) w x (bE.flat L) hc
    rw [run_bytesToString w x L.length d (L.map fun b => ((b.toNat : Nat) : Int)) (by
      have e : (L.map fun b => ((b.toNat : Nat) : Int)).map (Value.int .u8) = bE.flat L := by rw [bE_flat, List.map_map]; rfl
      rw [e]
      have e2 : (bE.flat L).length = L.length := by rw [bE_flat, List.length_map]
      rw [e2] at hl
      exact hl)]
    rw [fold_push, byte_nums1]
    rfl
theorem u8_cell {x : Int} {n : Nat} (h : x = n) (hn : n < 256) : Value.int .u8 (((UInt8.ofNat n).toNat : Nat) : Int) = .int .u8 x := by
  rw [h]
  congr 2
  simp
  omega
set_option maxRecDepth 100000 in
theorem enc_flat {r : Int} (hr : isRuneP r) : bE.flat (encB r) = if r < 128 then [.int .u8 r] else if r < 2048 then [.int .u8 (192 + r / 64), .int .u8 (128 + r % 64)] else if r < 65536 then [.int .u8 (224 + r / 4096), .int .u8 (128 + r / 64 % 64), .int .u8 (128 + r % 64)] else
    [.int .u8 (240 + r / 262144), .int .u8 (128 + r / 4096 % 64), .int .u8 (128 + r / 64 % 64), .int .u8 (128 + r % 64)] := by
  have hv : Utf8.valid r = true := (Gl.valid_iff r).2 (by unfold isRuneP at hr; omega)
  unfold isRuneP at hr
  obtain ⟨c, rfl⟩ : ∃ c : Nat, r = c := ⟨r.toNat, by omega⟩
  rw [bE_flat]
  unfold encB Utf8.encode
  dsimp only
  rw [if_pos hv, show ((c : Int)).toNat = c by omega]
  by_cases h1 : c < 128
  · rw [if_pos h1, if_pos (show (c : Int) < 128 by omega)]
    simp only [List.map_cons, List.map_nil]
    rw [u8_cell rfl (by omega)]
  · rw [if_neg h1, if_neg (show ¬ (c : Int) < 128 by omega)]
    by_cases h2 : c < 2048
    · rw [if_pos h2, if_pos (show (c : Int) < 2048 by omega)]
      simp only [List.map_cons, List.map_nil]
      rw [u8_cell (x := 192 + (c : Int) / 64) (by omega) (by omega), u8_cell (x := 128 + (c : Int) % 64) (by omega) (by omega)]
    · rw [if_neg h2, if_neg (show ¬ (c : Int) < 2048 by omega)]
      by_cases h3 : c < 65536
      · rw [if_pos h3, if_pos (show (c : Int) < 65536 by omega)]
        simp only [List.map_cons, List.map_nil]
        rw [u8_cell (x := 224 + (c : Int) / 4096) (by omega) (by omega), u8_cell (x := 128 + (c : Int) / 64 % 64) (by omega) (by omega), u8_cell (x := 128 + (c : Int) % 64) (by omega) (by omega)]
      · rw [if_neg h3, if_neg (show ¬ (c : Int) < 65536 by omega)]
        simp only [List.map_cons, List.map_nil]
        rw [u8_cell (x := 240 + (c : Int) / 262144) (by omega) (by omega), u8_cell (x := 128 + (c : Int) / 4096 % 64) (by omega) (by omega), u8_cell (x := 128 + (c : Int) / 64 % 64) (by omega) (by omega), u8_cell (x := 128 + (c : Int) % 64) (by omega) (by omega)]
theorem enc_lit {r : Int} {cs : Array Value} (w : World) (hc : cs = (bE.flat (encB r)).toArray) (n : Nat) (hn : n = (encB r).length) : (convert 103 9 (.slice (some ⟨w.heap.size, 0, none⟩) n n)).run Tryz.prog (w.alloc (.cells cs 5)) = .ok (.string ⟨(encB r).toArray⟩) (w.alloc (.cells cs 5)) := by
  subst hn
  exact conv_bytes1 (SlAt.lit (E := bE) (encB r) cs hc (by have := encB_len r; unfold maxLen; omega))
theorem enc_count {r : Int} {n : Nat} (h : (bE.flat (encB r)).length = n) : n = (encB r).length := by rw [← h, bE_flat, List.length_map]
set_option maxRecDepth 100000 in
set_option maxHeartbeats 4000000 in
theorem rencode_any {r : Int} (hr : isRuneP r) (w : World) : Calls Tryz.prog 103 #[.int .i32 r] w fun e w' => e = .returned (.string ⟨(encB r).toArray⟩) ∧ Kept (fun _ => False) w w' := by
  have IS := Lib.hid (ris_rune hr)
  have hf := enc_flat hr
  have hrr := hr
  unfold isRuneP at hrr
  obtain ⟨S, hS⟩ : ∃ S : ByteArray, (⟨(encB r).toArray⟩ : ByteArray) = S := ⟨_, rfl⟩
  by_cases h1 : r < 128
  · have h0 : 0 ≤ r := by omega
    rw [if_pos h1] at hf
    have CV := Lib.hid (enc_lit w (cs := #[.int .u8 r]) (by rw [hf]) 1 (enc_count (by rw [hf]; rfl)))
    rw [hS] at CV ⊢
    clear hf hS hrr hr
    go_enter Tryz.func103, Tryz.ntmps103
    go_upto_region 11 with (go_at_call 107; refine (IS.out _).mono ?_; rintro e w' ⟨rfl, rfl⟩)
    have cv := CV.out
    go_wp2_with fail
    go_ret
    exact ⟨rfl, (Kept.refl _ _).alloc _⟩
  rw [if_neg h1] at hf
  by_cases h2 : r < 2048
  · rw [if_pos h2] at hf
    have CV := Lib.hid (enc_lit w (cs := #[.int .u8 (192 + r / 64), .int .u8 (128 + r % 64)]) (by rw [hf]) 2 (enc_count (by rw [hf]; rfl)))
    rw [hS] at CV ⊢
    clear hf hS hrr hr
    go_enter Tryz.func103, Tryz.ntmps103
    go_upto_region 11 with (go_at_call 107; refine (IS.out _).mono ?_; rintro e w' ⟨rfl, rfl⟩)
    have cv := CV.out
    go_wp2_with fail
    go_ret
    exact ⟨rfl, (Kept.refl _ _).alloc _⟩
  rw [if_neg h2] at hf
  by_cases h3 : r < 65536
  · rw [if_pos h3] at hf
    have CV := Lib.hid (enc_lit w (cs := #[.int .u8 (224 + r / 4096), .int .u8 (128 + r / 64 % 64), .int .u8 (128 + r % 64)]) (by rw [hf]) 3 (enc_count (by rw [hf]; rfl)))
    rw [hS] at CV ⊢
    clear hf hS hrr hr
    go_enter Tryz.func103, Tryz.ntmps103
    go_upto_region 11 with (go_at_call 107; refine (IS.out _).mono ?_; rintro e w' ⟨rfl, rfl⟩)
    have cv := CV.out
    go_wp2_with fail
    go_ret
    exact ⟨rfl, (Kept.refl _ _).alloc _⟩
  · rw [if_neg h3] at hf
    have h4 : r ≤ 1114111 := by omega
    have CV := Lib.hid (enc_lit w (cs := #[.int .u8 (240 + r / 262144), .int .u8 (128 + r / 4096 % 64), .int .u8 (128 + r / 64 % 64), .int .u8 (128 + r % 64)]) (by rw [hf]) 4 (enc_count (by rw [hf]; rfl)))
    rw [hS] at CV ⊢
    clear hf hS hrr hr
    go_enter Tryz.func103, Tryz.ntmps103
    go_upto_region 11 with (go_at_call 107; refine (IS.out _).mono ?_; rintro e w' ⟨rfl, rfl⟩)
    have cv := CV.out
    go_wp2_with fail
    go_ret
    exact ⟨rfl, (Kept.refl _ _).alloc _⟩
theorem flat_len1 (rs : List Int) : (rs.flatMap encB).length ≤ 4 * rs.length := by
  induction rs with
  | nil => simp
  | cons r rs ih => have := (encB_len r).2; simp only [List.flatMap_cons, List.length_append, List.length_cons]; omega
def i32E : Enc Int := ⟨1, fun r => [.int .i32 r], fun _ => rfl, by decide, fun x u hu => by rw [List.mem_singleton.1 hu]; rfl⟩
theorem SlAt.i32 {w : World} {v : Value} {L : List Int} (h : SlAt i32E w v L) (hn : 0 < L.length) : ∃ g o c, v = .slice (some ⟨g, o, none⟩) L.length c ∧ ∀ (i : Nat) (x : Int), L[i]? = some x → w.cell? ⟨g, o + i, none⟩ = some (.int .i32 x) := by
  obtain ⟨g, o, c, rfl, _, _, _, hc⟩ := h.one hn
  refine ⟨g, o, c, rfl, fun i x hx => ?_⟩
  have := hc i x hx 0 _ rfl
  simp only [i32E, Nat.mul_one, Nat.add_zero] at this
  exact this
theorem info_i32 : (Tryz.prog.info? 21).map (fun i => (i.zero, i.size, i.bytes)) = some (some (.int .i32 0), 1, 4) := by kernel_rfl
theorem info_u81 : (Tryz.prog.info? 5).map (fun i => (i.zero, i.size, i.bytes)) = some (some (.int .u8 0), 1, 1) := by kernel_rfl
theorem str_cells1 (s : ByteArray) : Lib.strCells s = bE.flat s.data.toList := by rw [bE_flat]; rfl
set_option maxRecDepth 100000 in
set_option maxHeartbeats 4000000 in
theorem rtext1_any {w : World} {v : Value} {L : List Int} (h : SlAt i32E w v L) (hr : ∀ r ∈ L, isRuneP r) (hlen : L.length ≤ 1000000) :
    Calls Tryz.prog 77 #[v] w fun e w' => e = .returned (.string ⟨(L.flatMap encB).toArray⟩) ∧ Kept (fun _ => False) w w' := by
  obtain ⟨a, c, rfl, _, _⟩ := h.sl
  have HL := Lib.hid h
  have HR := Lib.hid hr
  obtain ⟨i0, hi0, hz0, hz1, hz2⟩ := info_parts info_u81
  have I := Lib.hid hi0
  have Z0 := Lib.hid hz0
  have Z1 := Lib.hid hz1
  have Z2 := Lib.hid hz2
  clear h hr hi0 hz0 hz1 hz2
  go_enter Tryz.func77, Tryz.ntmps77
  go_wp2_with fail
  go_loopw [3, 4] (fun bv kv wr => ∃ n : Nat, kv = .int .i64 n ∧ n ≤ L.length ∧ wr.ownsRow w.heap.size 5 1 bv ((L.take n).flatMap encB).length (bE.flat ((L.take n).flatMap encB)) ∧ Kept (fun _ => False) w wr) (fun _ kv _ => L.length - (intOf kv).toNat)
  case atStart => exact ⟨0, rfl, Nat.zero_le _, World.ownsRow_nil .., Kept.refl _ _⟩
  case round =>
    obtain ⟨n, rfl, hn, ho, hk⟩ := hrel
    have HO := Lib.hid ho
    have KW := Lib.hid hk
    have hn0 : (0 : Int) ≤ n := by omega
    clear ho hk
    by_cases hlt : n < L.length
    case neg =>
      have hnl : ¬ (n : Int) < L.length := by omega
      have OW := HO.out
      rw [List.take_of_length_le (by omega)] at OW
      have cv := conv_bytes1 (owns_slAt (E := bE) OW)
      clear OW
      go_wp2_with fail
      go_ret
      exact ⟨rfl, KW.out⟩
    case pos =>
      have hnl : (n : Int) < L.length := by omega
      obtain ⟨x, hx⟩ := get_of_lt hlt
      obtain ⟨g, o, c', e1, h1⟩ := SlAt.i32 (HL.out.kept KW.out) (by omega)
      cases e1
      have c0 := h1 n x hx
      have EN := Lib.hid (rencode_any (HR.out x (List.mem_of_getElem? hx)))
      have htk : (L.take (n + 1)).flatMap encB = (L.take n).flatMap encB ++ encB x := by rw [List.take_add_one, hx]; simp
      have TK := Lib.hid htk
      have hb : ((L.take n).flatMap encB).length ≤ 4000000 := by
        have h9 := flat_len1 (L.take n)
        have := List.length_take_le n L
        omega
      have HB := Lib.hid hb
      obtain ⟨S, hS⟩ : ∃ S : ByteArray, (⟨(encB x).toArray⟩ : ByteArray) = S := ⟨_, rfl⟩
      have hsz : S.size = (encB x).length := by rw [← hS]; rfl
      have hsl : S.data.toList = encB x := by rw [← hS]
      rw [hS] at EN
      have SZ := Lib.hid hsz
      have SL := Lib.hid hsl
      have EL := Lib.hid (encB_len x)
      clear htk hx h1 hb hS hsz hsl
      go_wp2_with (first
        | (go_at_call 103; refine (EN.out _).mono ?_; rintro e w1 ⟨rfl, hk⟩; have K1 := Lib.hid (KW.out.trans hk fun _ _ h => h); have O1 := Lib.hid (owns_keep HO.out hk fun _ _ h => h); clear hk)
        | (at_builtin; refine wpList_append_string_at rfl (.tmp 11) (.tmp 16) 103 9 rfl w.heap.size 5 i0 Tryz.underlying103 Tryz.underlying9 I.out Z0.out Z1.out Z2.out _ _ _ rfl O1.out S rfl (by have := HB.out; have := SZ.out; have := EL.out; omega) K1.out.size ?_; intro v3 w3 ho3 hg3 hb3))
      go_roundw
      case rel =>
        refine ⟨n + 1, by go_num, by omega, ?_, K1.out.over (Kept.grown (Kept.refl (fun b => u3.ownBlock = some b) _) hg3 (fun k e _ => e)) (fun x hx => owns_new O1.out x hx)⟩
        rw [TK.out, List.length_append, Enc.flat_append, ← SZ.out, ← SL.out, ← str_cells1]
        exact ho3
      case measure => simp [intOf]; omega
end Go.Proofs.YtlafodnaifghcaaGreat.Tr
namespace Go.Proofs.YtlafodnaifghcaaGreat
open Go.RowKit Go.Proofs.YtlafodnaifghcaaGreat.Gl
/-- do so many bytes follow? -/
def followsP (t : ByteArray) (n : Nat) (lo hi : Int) : Prop := n ≤ t.size ∧ lo ≤ byteAt t 0 ∧ byteAt t 0 ≤ hi ∧ ∀ j, 1 ≤ j → j < n → 128 ≤ byteAt t j ∧ byteAt t j ≤ 191
instance (t : ByteArray) (n : Nat) (lo hi : Int) : Decidable (followsP t n lo hi) := by
  unfold followsP
  have : Decidable (∀ j, 1 ≤ j → j < n → 128 ≤ byteAt t j ∧ byteAt t j ≤ 191) := decidable_of_iff (∀ j, j < n → 1 ≤ j → 128 ≤ byteAt t j ∧ byteAt t j ≤ 191) ⟨fun h j a b => h j b a, fun h j a b => h j b a⟩
  infer_instance
theorem and192 {b : Int} (h0 : 0 ≤ b) (h1 : b ≤ 255) : (bits BinOp.and IntKind.u8 b 192 != 128) = decide (¬ (128 ≤ b ∧ b ≤ 191)) := by
  have key : ∀ n : Fin 256, (bits BinOp.and IntKind.u8 (n.val : Int) 192 != 128) = decide (¬ (128 ≤ (n.val : Int) ∧ (n.val : Int) ≤ 191)) := by decide +kernel
  have := key ⟨b.toNat, by omega⟩
  have e : ((b.toNat : Nat) : Int) = b := by omega
  simpa only [e] using this
set_option maxHeartbeats 2000000 in
theorem follows_any (t : ByteArray) (n : Nat) (lo hi : Int) (hn1 : 1 ≤ n) (hn : n ≤ 3) (ht : t.size ≤ maxLen) (w : World) : Calls Tryz.prog 108 #[.string t, .int .i64 n, .int .u8 lo, .int .u8 hi] w fun e w' => e = .returned (.bool (decide (followsP t n lo hi))) ∧ w' = w := by
  unfold maxLen at ht
  by_cases h1 : t.size < n
  · have ANS := Lib.hid (show decide (followsP t n lo hi) = false from decide_eq_false (fun h => by have := h.1; omega))
    have h1I : (t.size : Int) < n := by omega
    go_enter Tryz.func108, Tryz.ntmps108
    go_wp2_with fail
    go_ret
    exact ⟨by rw [ANS.out]; rfl, rfl⟩
  have h1I : ¬ (t.size : Int) < n := by omega
  have h0 : 0 < t.size := by omega
  have hb0 := byteAt_get h0
  by_cases h2 : byteAt t 0 < lo
  · have ANS := Lib.hid (show decide (followsP t n lo hi) = false from decide_eq_false (fun h => by have := h.2.1; omega))
    go_enter Tryz.func108, Tryz.ntmps108
    go_wp2_with fail
    go_ret
    exact ⟨by rw [ANS.out]; rfl, rfl⟩
  by_cases h3 : hi < byteAt t 0
  · have ANS := Lib.hid (show decide (followsP t n lo hi) = false from decide_eq_false (fun h => by have := h.2.2.1; omega))
    go_enter Tryz.func108, Tryz.ntmps108
    go_wp2_with fail
    go_ret
    exact ⟨by rw [ANS.out]; rfl, rfl⟩
  go_enter Tryz.func108, Tryz.ntmps108
  go_wp2_with fail
  clear hb0
  have hlo : lo ≤ byteAt t 0 := by omega
  have hhi : byteAt t 0 ≤ hi := by omega
  have hnt : n ≤ t.size := by omega
  clear h1 h1I h2 h3
  go_loop [9] (fun i => ∃ k : Nat, i = .int .i64 k ∧ 1 ≤ k ∧ k ≤ n ∧ ∀ j, 1 ≤ j → j < k → 128 ≤ byteAt t j ∧ byteAt t j ≤ 191) (fun i => n - (intOf i).toNat)
  case atStart => exact ⟨1, rfl, Nat.le_refl _, hn1, fun j a b => by omega⟩
  case round =>
    obtain ⟨k, rfl, hk1, hkn, hlow⟩ := hrel
    have LOW := Lib.hid hlow
    clear hlow
    by_cases hlt : k < n
    case neg =>
      obtain rfl : k = n := by omega
      have hltI : ¬ (k : Int) < k := by omega
      have ANS := Lib.hid (show decide (followsP t k lo hi) = true from decide_eq_true ⟨hnt, hlo, hhi, LOW.out⟩)
      go_wp2_with fail
      go_ret
      exact ⟨by rw [ANS.out]; rfl, rfl⟩
    case pos =>
      have hltI : (k : Int) < n := by omega
      have hkt : (k : Int) < t.size := by omega
      have hk0 : (0 : Int) ≤ k := by omega
      have hbk := byteAt_get (show k < t.size by omega)
      have hbd := byteAt_bd t k
      have ha := and192 hbd.1 hbd.2
      by_cases hl : 128 ≤ byteAt t k ∧ byteAt t k ≤ 191
      · rw [decide_eq_false (fun h => h hl)] at ha
        have HL := Lib.hid hl
        clear hl hbd
        go_wp2_with fail
        go_round
        case rel =>
          refine ⟨k + 1, by go_num, by omega, by omega, fun j a b => ?_⟩
          by_cases hj : j = k
          · rw [hj]; exact HL.out
          · exact LOW.out j a (by omega)
        case measure => simp [intOf]; omega
      · rw [decide_eq_true hl] at ha
        have ANS := Lib.hid (show decide (followsP t n lo hi) = false from decide_eq_false (fun h => hl (h.2.2.2 k hk1 hlt)))
        clear hl hbd
        go_wp2_with fail
        go_ret
        exact ⟨by rw [ANS.out]; rfl, rfl⟩
theorem follows_runeW {s : ByteArray} (h0 : 0 < s.size) (h1 : 194 ≤ byteAt s 0) (h2 : byteAt s 0 ≤ 244) :
    runeW s 0 = if followsP (s.extract 1 s.size) (tailN (byteAt s 0)) (loB (byteAt s 0)) (hiB (byteAt s 0)) then tailN (byteAt s 0) + 1 else 0 := by
  have hs : (s.extract 1 s.size).size = s.size - 1 := by simp
  have hx := fun j => byteAt_extract s 1 j (by omega)
  have ht : 1 ≤ tailN (byteAt s 0) ∧ tailN (byteAt s 0) ≤ 3 := by unfold tailN; split <;> (try split) <;> omega
  have e : (inB s (0 + 1) (loB (byteAt s 0)) (hiB (byteAt s 0)) ∧ (2 ≤ tailN (byteAt s 0) → inB s (0 + 2) 128 191) ∧ (3 ≤ tailN (byteAt s 0) → inB s (0 + 3) 128 191)) ↔ followsP (s.extract 1 s.size) (tailN (byteAt s 0)) (loB (byteAt s 0)) (hiB (byteAt s 0)) := by
    unfold followsP inB
    rw [hs]
    simp only [hx, Nat.zero_add, Nat.add_zero]
    generalize tailN (byteAt s 0) = n at *
    constructor
    · rintro ⟨⟨a1, a2, a3⟩, b, c⟩
      refine ⟨?_, a2, a3, fun j hj1 hj2 => ?_⟩
      · by_cases h3 : 3 ≤ n
        · have := (c h3).1; omega
        · by_cases h4 : 2 ≤ n
          · have := (b h4).1; omega
          · omega
      · by_cases hj : j = 1
        · subst hj; exact (b (by omega)).2
        · have : j = 2 := by omega
          subst this; exact (c (by omega)).2
    · rintro ⟨a, b, c, d⟩
      exact ⟨⟨by omega, b, c⟩, fun h => ⟨by omega, d 1 (Nat.le_refl _) (by omega)⟩, fun h => ⟨by omega, d 2 (by omega) (by omega)⟩⟩
  unfold runeW
  rw [if_neg (by omega), if_neg (by omega)]
  by_cases hf : followsP (s.extract 1 s.size) (tailN (byteAt s 0)) (loB (byteAt s 0)) (hiB (byteAt s 0))
  · rw [if_pos hf, if_pos (e.2 hf)]
  · rw [if_neg hf, if_neg (fun h => hf (e.1 h))]
/-- follows, by its answer -/
theorem follows_b (t : ByteArray) (n : Nat) (lo hi : Int) (hn1 : 1 ≤ n) (hn : n ≤ 3) (ht : t.size ≤ maxLen) {b : Bool} (hb : decide (followsP t n lo hi) = b) (w : World) : Calls Tryz.prog 108 #[.string t, .int .i64 n, .int .u8 lo, .int .u8 hi] w fun e w' => e = .returned (.bool b) ∧ w' = w := hb ▸ follows_any t n lo hi hn1 hn ht w
set_option maxRecDepth 100000 in
set_option maxHeartbeats 8000000 in
theorem width_any (s : ByteArray) (h0 : 0 < s.size) (hs : s.size ≤ maxLen) (w : World) : Calls Tryz.prog 86 #[.string s] w fun e w' => e = .returned (.int .i64 (runeW s 0)) ∧ w' = w := by
  have hbd := byteAt_bd s 0
  have hb0 := byteAt_get h0
  have hfr := follows_runeW h0
  have hxs : (s.extract 1 s.size).size ≤ maxLen := by simp; omega
  unfold maxLen at hs
  by_cases c1 : byteAt s 0 < 128
  · have ANS := Lib.hid (show runeW s 0 = 1 from if_pos c1)
    clear hfr hbd
    go_enter Tryz.func86, Tryz.ntmps86
    go_wp2_with fail
    go_ret
    exact ⟨by rw [ANS.out]; rfl, rfl⟩
  by_cases c2 : byteAt s 0 < 194
  · have ANS := Lib.hid (show runeW s 0 = 0 by unfold runeW; rw [if_neg c1, if_pos (.inl c2)])
    clear hfr hbd
    go_enter Tryz.func86, Tryz.ntmps86
    go_wp2_with fail
    go_ret
    exact ⟨by rw [ANS.out]; rfl, rfl⟩
  by_cases c3 : 244 < byteAt s 0
  · have ANS := Lib.hid (show runeW s 0 = 0 by unfold runeW; rw [if_neg c1, if_pos (.inr c3)])
    clear hfr hbd
    go_enter Tryz.func86, Tryz.ntmps86
    go_wp2_with fail
    go_ret
    exact ⟨by rw [ANS.out]; rfl, rfl⟩
  have hfr := hfr (by omega) (by omega)
  obtain ⟨n, lo, hi, hn1, hn3, hw, hcase⟩ : ∃ (n : Nat) (lo hi : Int), 1 ≤ n ∧ n ≤ 3 ∧ runeW s 0 = (if followsP (s.extract 1 s.size) n lo hi then n + 1 else 0) ∧
      ((byteAt s 0 < 224 ∧ n = 1 ∧ lo = 128 ∧ hi = 191) ∨ (byteAt s 0 = 224 ∧ n = 2 ∧ lo = 160 ∧ hi = 191) ∨ (byteAt s 0 = 237 ∧ n = 2 ∧ lo = 128 ∧ hi = 159) ∨ (224 < byteAt s 0 ∧ byteAt s 0 < 240 ∧ byteAt s 0 ≠ 237 ∧ n = 2 ∧ lo = 128 ∧ hi = 191) ∨
        (byteAt s 0 = 240 ∧ n = 3 ∧ lo = 144 ∧ hi = 191) ∨ (byteAt s 0 = 244 ∧ n = 3 ∧ lo = 128 ∧ hi = 143) ∨ (240 < byteAt s 0 ∧ byteAt s 0 < 244 ∧ n = 3 ∧ lo = 128 ∧ hi = 191)) := by
    refine ⟨tailN (byteAt s 0), loB (byteAt s 0), hiB (byteAt s 0), ?_, ?_, hfr, ?_⟩
    · unfold tailN; split <;> (try split) <;> omega
    · unfold tailN; split <;> (try split) <;> omega
    · unfold tailN loB hiB
      generalize byteAt s 0 = a at *
      split <;> split <;> split <;> omega
  clear hfr
  obtain ⟨b, hb⟩ : ∃ b, decide (followsP (s.extract 1 s.size) n lo hi) = b := ⟨_, rfl⟩
  have HF := Lib.hid (follows_b (s.extract 1 s.size) n lo hi hn1 hn3 hxs hb w)
  have ANS : Hid (runeW s 0 = if b = true then n + 1 else 0) := Lib.hid (by
    rw [hw, ← hb]
    by_cases h : followsP (s.extract 1 s.size) n lo hi
    · rw [if_pos h, if_pos (decide_eq_true h)]
    · rw [if_neg h, if_neg (fun e => h (of_decide_eq_true e))])
  clear hw hb hxs hbd hn1 hn3
  generalize byteAt s 0 = a at *
  have fin : ∀ (e : Ending) (w' : World), e = .returned (.int .i64 ((if b = true then n + 1 else 0 : Nat) : Int)) → w' = w → e = .returned (.int .i64 (runeW s 0)) ∧ w' = w := fun _ _ h1 h2 => ⟨by rw [ANS.out]; exact h1, h2⟩
  have FIN := Lib.hid fin
  clear fin ANS
  rcases hcase with ⟨e1, rfl, rfl, rfl⟩ | ⟨rfl, rfl, rfl, rfl⟩ | ⟨rfl, rfl, rfl, rfl⟩ | ⟨e1, e2, e3, rfl, rfl, rfl⟩ | ⟨rfl, rfl, rfl, rfl⟩ | ⟨rfl, rfl, rfl, rfl⟩ | ⟨e1, e2, rfl, rfl, rfl⟩
  rotate_left 3
  · have f1 : (a == 224) = false := beq_eq_false_iff_ne.2 (by omega)
    have f2 : (a == 237) = false := beq_eq_false_iff_ne.2 e3
    have f3 : ¬ a < 224 := by omega
    clear e1 e3
    cases b
    all_goals
      go_enter Tryz.func86, Tryz.ntmps86
      go_wp2_with (go_at_call 108; refine HF.out.mono ?_; rintro e w' ⟨rfl, rfl⟩)
      go_ret
      exact FIN.out _ _ rfl rfl
  rotate_left 2
  · have f1 : (a == 224) = false := beq_eq_false_iff_ne.2 (by omega)
    have f2 : (a == 237) = false := beq_eq_false_iff_ne.2 (by omega)
    have f3 : ¬ a < 224 := by omega
    have f4 : ¬ a < 240 := by omega
    have f5 : (a == 240) = false := beq_eq_false_iff_ne.2 (by omega)
    have f6 : (a == 244) = false := beq_eq_false_iff_ne.2 (by omega)
    clear e1 e2
    cases b
    all_goals
      go_enter Tryz.func86, Tryz.ntmps86
      go_wp2_with (go_at_call 108; refine HF.out.mono ?_; rintro e w' ⟨rfl, rfl⟩)
      go_ret
      exact FIN.out _ _ rfl rfl
  all_goals
    cases b
    all_goals
      go_enter Tryz.func86, Tryz.ntmps86
      go_wp2_with (go_at_call 108; refine HF.out.mono ?_; rintro e w' ⟨rfl, rfl⟩)
      go_ret
      exact FIN.out _ _ rfl rfl
end Go.Proofs.YtlafodnaifghcaaGreat
namespace Go.Proofs.YtlafodnaifghcaaGreat
open Go.RowKit Go.Proofs.YtlafodnaifghcaaGreat.Gl
namespace Gl
/-- how far the next piece is -/
def stepW (s : ByteArray) (i : Nat) : Nat := if runeW s i = 0 then 1 else runeW s i
theorem stepW_pos (s : ByteArray) (i : Nat) : 1 ≤ stepW s i := by unfold stepW; split <;> omega
theorem stepW_in {s : ByteArray} {i : Nat} (h : i < s.size) : i + stepW s i ≤ s.size := by
  unfold stepW
  split
  · omega
  · rename_i hn
    unfold runeW at hn ⊢
    split
    · omega
    · rename_i h1
      rw [if_neg h1] at hn
      split
      · rename_i h2
        rw [if_pos h2] at hn
        exact absurd rfl hn
      · rename_i h2
        rw [if_neg h2] at hn
        split
        · rename_i h3
          unfold inB at h3
          unfold tailN at h3 ⊢
          split
          · omega
          · split
            · rename_i h4 h5
              have := (h3.2.1 (by rw [if_neg h4, if_pos h5]; omega)).1
              omega
            · rename_i h4 h5
              have := (h3.2.2 (by rw [if_neg h4, if_neg h5]; omega)).1
              omega
        · rename_i h3
          rw [if_neg h3] at hn
          exact absurd rfl hn
/-- where pieces begin -/
def startsN (s : ByteArray) : Nat → Nat → List Nat
  | 0, _ => []
  | n + 1, i => if i < s.size then i :: startsN s n (i + stepW s i) else []
theorem startsN_same (s : ByteArray) : ∀ (n m i : Nat), s.size - i ≤ n → s.size - i ≤ m → startsN s n i = startsN s m i
  | 0, m, i, h, _ => by
    have hi : ¬ i < s.size := by omega
    cases m with
    | zero => rfl
    | succ m => simp [startsN, hi]
  | n + 1, 0, i, _, h => by
    have hi : ¬ i < s.size := by omega
    simp [startsN, hi]
  | n + 1, m + 1, i, h1, h2 => by
    unfold startsN
    split
    · have := stepW_pos s i
      rw [startsN_same s n m (i + stepW s i) (by omega) (by omega)]
    · rfl
def pieces (s : ByteArray) (i : Nat) : List Nat := startsN s (s.size - i) i
theorem pieces_end {s : ByteArray} {i : Nat} (h : ¬ i < s.size) : pieces s i = [] := by
  unfold pieces
  rw [show s.size - i = 0 by omega]
  rfl
theorem pieces_next {s : ByteArray} {i : Nat} (h : i < s.size) : pieces s i = i :: pieces s (i + stepW s i) := by
  unfold pieces
  rw [show s.size - i = (s.size - i - 1) + 1 by omega]
  unfold startsN
  rw [if_pos h]
  have := stepW_pos s i
  rw [startsN_same s (s.size - i - 1) (s.size - (i + stepW s i)) _ (by omega) (by omega)]
  cases hh : s.size - (i + stepW s i) with
  | zero => rfl
  | succ n => rfl
def countR (s : ByteArray) : Nat := (pieces s 0).length
theorem pieces_len (s : ByteArray) (n : Nat) : ∀ i : Nat, s.size - i ≤ n → (pieces s i).length ≤ s.size - i := by
  induction n with
  | zero =>
    intro i hn
    rw [pieces_end (by omega)]
    exact Nat.zero_le _
  | succ n ih =>
    intro i hn
    by_cases h : i < s.size
    · have h1 := stepW_pos s i
      have := ih (i + stepW s i) (by omega)
      rw [pieces_next h, List.length_cons]
      omega
    · rw [pieces_end h]; exact Nat.zero_le _
theorem countR_le (s : ByteArray) : countR s ≤ s.size := by
  have := pieces_len s s.size 0 (by omega)
  unfold countR
  omega
/-- the first piece that is no rune; -1: there is none -/
def badFrom (s : ByteArray) (i : Nat) : Int := match (pieces s i).find? (fun j => decide (runeW s j = 0)) with
  | some j => j
  | none => -1
theorem badFrom_end {s : ByteArray} {i : Nat} (h : ¬ i < s.size) : badFrom s i = -1 := by unfold badFrom; rw [pieces_end h]; rfl
theorem badFrom_bad {s : ByteArray} {i : Nat} (h : i < s.size) (hb : runeW s i = 0) : badFrom s i = i := by
  unfold badFrom
  rw [pieces_next h, List.find?_cons_of_pos (by simpa using hb)]
theorem badFrom_good {s : ByteArray} {i : Nat} (h : i < s.size) (hb : runeW s i ≠ 0) : badFrom s i = badFrom s (i + stepW s i) := by
  unfold badFrom
  rw [pieces_next h, List.find?_cons_of_neg (by simpa using hb)]
end Gl
theorem iter_kept (w : World) (s : ByteArray) (p : Nat) : Kept (fun _ => False) w (w.iter s p) := (Kept.refl _ _).alloc _
set_option maxRecDepth 100000 in
set_option maxHeartbeats 2000000 in
theorem count_any (s : ByteArray) (hs : s.size ≤ maxLen) (w : World) : Calls Tryz.prog 56 #[.string s] w fun e w' => e = .returned (.int .i64 (countR s)) ∧ ∃ p, w' = w.iter s p := by
  unfold maxLen at hs
  have hcl := countR_le s
  go_enter Tryz.func56, Tryz.ntmps56
  go_wp2_with fail
  go_loopw [3] (fun nv wr => ∃ (k i : Nat), nv = .int .i64 k ∧ i ≤ s.size ∧ wr = w.iter s i ∧ k + (pieces s i).length = countR s) (fun nv _ => countR s - (intOf nv).toNat)
  case atStart => exact ⟨0, 0, rfl, Nat.zero_le _, rfl, by unfold countR; omega⟩
  case round =>
    obtain ⟨k, i, rfl, hi, rfl, hk⟩ := hrel
    by_cases hlt : i < s.size
    · have hnx := fun ty => run_next_any (P := Tryz.prog) w s i ty hlt
      have hd := decode_runeW s i
      have hst : (Utf8.decode s i).2 = stepW s i := hd.1
      have hin := stepW_in hlt
      rw [pieces_next hlt, List.length_cons] at hk
      have HK := Lib.hid hk
      rw [hst] at hnx
      have hkl : k + 1 ≤ s.size := by omega
      have hk0 : (0 : Int) ≤ k := by omega
      generalize (Utf8.decode s i).1 = r at *
      clear hd hst hk
      go_wp2_with fail
      go_roundw
      case rel => exact ⟨k + 1, i + stepW s i, by go_num, hin, rfl, by have := HK.out; omega⟩
      case measure => have := HK.out; simp [intOf]; omega
    · obtain rfl : i = s.size := by omega
      have hnx := fun ty => run_next_end (P := Tryz.prog) w s s.size ty hlt
      rw [pieces_end hlt] at hk
      have HK := Lib.hid (show k = countR s from hk)
      clear hk
      go_wp2_with fail
      go_ret
      exact ⟨by rw [HK.out]; rfl, _, rfl⟩
/-- width of what is left from a place on -/
theorem width_from (s : ByteArray) (i : Nat) (h : i < s.size) (hs : s.size ≤ maxLen) {n : Nat} (hn : runeW s i = n) (w : World) : Calls Tryz.prog 86 #[.string (s.extract i s.size)] w fun e w' => e = .returned (.int .i64 n) ∧ w' = w := by
  have := width_any (s.extract i s.size) (by simp; omega) (by simp; omega) w
  rw [runeW_extract s i (by omega), hn] at this
  exact this
set_option maxRecDepth 100000 in
set_option maxHeartbeats 4000000 in
theorem badAt_any (s : ByteArray) (hs : s.size ≤ maxLen) (w : World) : Calls Tryz.prog 55 #[.string s] w fun e w' => e = .returned (.int .i64 (badFrom s 0)) ∧ ∃ p, w' = w.iter s p := by
  have hs2 := hs
  unfold maxLen at hs
  go_enter Tryz.func55, Tryz.ntmps55
  go_wp2_with fail
  go_loopw [3] (fun _ wr => ∃ i : Nat, i ≤ s.size ∧ wr = w.iter s i ∧ badFrom s 0 = badFrom s i) (fun _ wr => s.size - wr.iterPos w.heap.size)
  case atStart => exact ⟨0, Nat.zero_le _, rfl, rfl⟩
  case round =>
    obtain ⟨i, hi, rfl, hb⟩ := hrel
    have HB := Lib.hid hb
    clear hb
    by_cases hlt : i < s.size
    case neg =>
      obtain rfl : i = s.size := by omega
      have hnx := fun ty => run_next_end (P := Tryz.prog) w s s.size ty hlt
      have HE := Lib.hid (badFrom_end hlt)
      go_wp2_with fail
      go_ret
      exact ⟨by rw [HB.out, HE.out]; rfl, _, rfl⟩
    case pos =>
      have hnx := fun ty => run_next_any (P := Tryz.prog) w s i ty hlt
      have hd := decode_runeW s i
      have hst : (Utf8.decode s i).2 = stepW s i := hd.1
      have hin := stepW_in hlt
      have hsp := stepW_pos s i
      have hltI : (i : Int) < s.size := by omega
      have hleI : (i : Int) ≤ s.size := by omega
      have hi0 : (0 : Int) ≤ i := by omega
      rw [hst] at hnx
      by_cases h0 : runeW s i = 0
      case pos =>
        have hr := hd.2 h0
        rw [hr] at hnx
        have HE := Lib.hid (badFrom_bad hlt h0)
        have HF := Lib.hid (fun (w' : World) => width_from s i hlt hs2 h0 w')
        clear hd hst hr h0 hsp hin
        go_wp2_with (go_at_call 86; refine (HF.out _).mono ?_; rintro e w' ⟨rfl, rfl⟩)
        go_ret
        exact ⟨by rw [HB.out, HE.out]; rfl, _, rfl⟩
      case neg =>
        have HE := Lib.hid (badFrom_good hlt h0)
        by_cases h1 : (Utf8.decode s i).1 = 65533
        · rw [h1] at hnx
          obtain ⟨n, hn⟩ : ∃ n, runeW s i = n := ⟨_, rfl⟩
          have hnb : ((n : Int) == 0) = false := beq_eq_false_iff_ne.2 (by omega)
          have HF := Lib.hid (fun (w' : World) => width_from s i hlt hs2 hn w')
          clear hd hst h1 hn h0
          go_wp2_with (go_at_call 86; refine (HF.out _).mono ?_; rintro e w' ⟨rfl, rfl⟩)
          go_roundw
          case rel => exact ⟨i + stepW s i, hin, rfl, by rw [HB.out, HE.out]⟩
          case measure => simp; omega
        · generalize (Utf8.decode s i).1 = r at *
          have hrb : ((r : Int) == 65533) = false := beq_eq_false_iff_ne.2 (by omega)
          clear hd hst h1 h0
          go_wp2_with fail
          go_roundw
          case rel => exact ⟨i + stepW s i, hin, rfl, by rw [HB.out, HE.out]⟩
          case measure => simp; omega
end Go.Proofs.YtlafodnaifghcaaGreat
namespace Go.Proofs.YtlafodnaifghcaaGreat.Gl
open Go.RowKit
/-- do so many bytes from a place on stand from 128 to 191? -/
def lowP (s : ByteArray) (i n : Nat) : Prop := ∀ j, j < n → i + j < s.size ∧ 128 ≤ byteAt s (i + j) ∧ byteAt s (i + j) ≤ 191
instance (s : ByteArray) (i n : Nat) : Decidable (lowP s i n) := by unfold lowP; infer_instance
theorem lo_hi (a : Int) : 128 ≤ loB a ∧ hiB a ≤ 191 := by
  unfold loB hiB
  constructor
  · split
    · omega
    · split <;> omega
  · split
    · omega
    · split <;> omega
theorem runeW_low {s : ByteArray} {i n : Nat} (h1 : 194 ≤ byteAt s i) (h2 : byteAt s i ≤ 244) (hn : tailN (byteAt s i) = n) (h0 : 1 ≤ n) (h3 : n ≤ 3) : runeW s i = if lowP s (i + 1) n ∧ loB (byteAt s i) ≤ byteAt s (i + 1) ∧ byteAt s (i + 1) ≤ hiB (byteAt s i) then n + 1 else 0 := by
  have hlh := lo_hi (byteAt s i)
  have key : (inB s (i + 1) (loB (byteAt s i)) (hiB (byteAt s i)) ∧ (2 ≤ n → inB s (i + 2) 128 191) ∧ (3 ≤ n → inB s (i + 3) 128 191)) ↔ (lowP s (i + 1) n ∧ loB (byteAt s i) ≤ byteAt s (i + 1) ∧ byteAt s (i + 1) ≤ hiB (byteAt s i)) := by
    unfold inB lowP
    constructor
    · rintro ⟨⟨a1, a2, a3⟩, b, c⟩
      refine ⟨fun j hj => ?_, a2, a3⟩
      match j, hj with
      | 0, _ => exact ⟨a1, by rw [Nat.add_zero]; omega, by rw [Nat.add_zero]; omega⟩
      | 1, hj => exact b (by omega)
      | 2, hj => exact c (by omega)
      | j + 3, hj => omega
    · rintro ⟨a, b, c⟩
      exact ⟨⟨(a 0 (by omega)).1, b, c⟩, fun h => a 1 (by omega), fun h => a 2 (by omega)⟩
  unfold runeW
  rw [if_neg (by omega), if_neg (by omega), hn]
  by_cases hf : lowP s (i + 1) n ∧ loB (byteAt s i) ≤ byteAt s (i + 1) ∧ byteAt s (i + 1) ≤ hiB (byteAt s i)
  · rw [if_pos hf, if_pos (key.2 hf)]
  · rw [if_neg hf, if_neg (fun h => hf (key.1 h))]
theorem runeW_low1 {s : ByteArray} {i : Nat} (h1 : 194 ≤ byteAt s i) (h2 : byteAt s i ≤ 223) : runeW s i = if lowP s (i + 1) 1 ∧ loB (byteAt s i) ≤ byteAt s (i + 1) ∧ byteAt s (i + 1) ≤ hiB (byteAt s i) then 2 else 0 :=
  runeW_low (n := 1) h1 (by omega) (if_pos (by omega)) (by omega) (by omega)
theorem runeW_low2 {s : ByteArray} {i : Nat} (h1 : 224 ≤ byteAt s i) (h2 : byteAt s i ≤ 239) : runeW s i = if lowP s (i + 1) 2 ∧ loB (byteAt s i) ≤ byteAt s (i + 1) ∧ byteAt s (i + 1) ≤ hiB (byteAt s i) then 3 else 0 :=
  runeW_low (n := 2) (by omega) (by omega) (by unfold tailN; rw [if_neg (by omega), if_pos (by omega)]) (by omega) (by omega)
theorem runeW_low3 {s : ByteArray} {i : Nat} (h1 : 240 ≤ byteAt s i) (h2 : byteAt s i ≤ 244) : runeW s i = if lowP s (i + 1) 3 ∧ loB (byteAt s i) ≤ byteAt s (i + 1) ∧ byteAt s (i + 1) ≤ hiB (byteAt s i) then 4 else 0 :=
  runeW_low (n := 3) (by omega) (by omega) (by unfold tailN; rw [if_neg (by omega), if_neg (by omega)]) (by omega) (by omega)
end Go.Proofs.YtlafodnaifghcaaGreat.Gl
namespace Go.Proofs.YtlafodnaifghcaaGreat.Gl
theorem runeW_one {s : ByteArray} {i : Nat} (h : runeW s i = 1) : byteAt s i < 128 := by
  unfold runeW at h
  by_cases h1 : byteAt s i < 128
  · exact h1
  · rw [if_neg h1] at h
    by_cases h2 : byteAt s i < 194 ∨ 244 < byteAt s i
    · rw [if_pos h2] at h; cases h
    · rw [if_neg h2] at h
      have ht : 1 ≤ tailN (byteAt s i) := by unfold tailN; split; exact Nat.le_refl _; split <;> decide
      split at h <;> omega
set_option maxRecDepth 10000 in
theorem decode_val {s : ByteArray} {i k : Nat} (hk : runeW s i = k) (h0 : k ≠ 0) :
    (k = 1 → ((Utf8.decode s i).1 : Int) = byteAt s i) ∧ (k = 2 → ((Utf8.decode s i).1 : Int) = (byteAt s i - 192) * 64 + (byteAt s (i + 1) - 128)) ∧
    (k = 3 → ((Utf8.decode s i).1 : Int) = (byteAt s i - 224) * 4096 + (byteAt s (i + 1) - 128) * 64 + (byteAt s (i + 2) - 128)) ∧
    (k = 4 → ((Utf8.decode s i).1 : Int) = (byteAt s i - 240) * 262144 + (byteAt s (i + 1) - 128) * 4096 + (byteAt s (i + 2) - 128) * 64 + (byteAt s (i + 3) - 128)) := by
  have h2 := (decode_runeW s i).1
  have h1 : k = 1 → byteAt s i < 128 := fun e => runeW_one (hk.trans e)
  rw [hk, if_neg h0] at h2
  unfold byteAt at h1 ⊢
  have b0 := (s.get! i).toNat_lt
  have b1 := (s.get! (i + 1)).toNat_lt
  have b2 := (s.get! (i + 2)).toNat_lt
  have b3 := (s.get! (i + 3)).toNat_lt
  obtain ⟨x, hx⟩ : ∃ x, Utf8.decode s i = x := ⟨_, rfl⟩
  rw [hx] at h2 ⊢
  simp only [Utf8.decode, Nat.add_zero] at hx
  simp only [Bool.and_eq_true, beq_iff_eq, decide_eq_true_iff] at hx
  generalize (s.get! i).toNat = a at *
  generalize (s.get! (i + 1)).toNat = b at *
  generalize (s.get! (i + 2)).toNat = c at *
  generalize (s.get! (i + 3)).toNat = d at *
  repeat' split at hx
  all_goals
    subst hx
    dsimp only at h2 ⊢
    refine ⟨?_, ?_, ?_, ?_⟩ <;> (intro hkk; have := h1; omega)
end Go.Proofs.YtlafodnaifghcaaGreat.Gl
