/- glyph.follows and width. glyph.Count and BadAt. Runs: why they are none; which identifiers they have. Plain laws. The document's Compare and After; stamp.last. -/
import Derived.Test.YtjohljmpcblpjaaGreatDoorL14
import Derived.Test.YtjohljmpcblpjaaGreatDoorL4
import Derived.Lib.Hide
import Derived.IntWalk
import Derived.Test.YtjohljmpcblpjaaGreatDoorL1
namespace Go.Proofs.YtjohljmpcblpjaaGreatDoor
open Go.RowKit Go.Proofs.YtjohljmpcblpjaaGreatDoor.Gl
/-- do so many bytes follow? -/
def followsP (t : ByteArray) (n : Nat) (lo hi : Int) : Prop := n ≤ t.size ∧ lo ≤ byteAt t 0 ∧ byteAt t 0 ≤ hi ∧ ∀ j, 1 ≤ j → j < n → 128 ≤ byteAt t j ∧ byteAt t j ≤ 191
instance (t : ByteArray) (n : Nat) (lo hi : Int) : Decidable (followsP t n lo hi) := by
  unfold followsP
  have : Decidable (∀ j, 1 ≤ j → j < n → 128 ≤ byteAt t j ∧ byteAt t j ≤ 191) := decidable_of_iff (∀ j, j < n → 1 ≤ j → 128 ≤ byteAt t j ∧ byteAt t j ≤ 191) ⟨fun h j a b => h j b a, fun h j a b => h j b a⟩
  infer_instance
theorem and192 {b : Int} (h0 : 0 ≤ b) (h1 : b ≤ 255) : (bits BinOp.and IntKind.u8 b 192 != 128) = decide (¬ (128 ≤ b ∧ b ≤ 191)) := by
  have key : ∀ n : Fin 256, (bits BinOp.and IntKind.u8 (n.val : Int) 192 != 128) = decide (¬ (128 ≤ (n.val : Int) ∧ (n.val : Int) ≤ 191)) := by decide +kernel
  have := key ⟨b.toNat, by omega⟩
  have e : ((b.toNat : Nat) : Int) = b := by omega
  simpa only [e] using this
set_option maxHeartbeats 2000000 in
theorem follows_any (t : ByteArray) (n : Nat) (lo hi : Int) (hn1 : 1 ≤ n) (hn : n ≤ 3) (ht : t.size ≤ maxLen) (w : World) : Calls Tryz.prog 180 #[.string t, .int .i64 n, .int .u8 lo, .int .u8 hi] w fun e w' => e = .returned (.bool (decide (followsP t n lo hi))) ∧ w' = w := by
  unfold maxLen at ht
  by_cases h1 : t.size < n
  · have ANS := Lib.hid (show decide (followsP t n lo hi) = false from decide_eq_false (fun h => by have := h.1; omega))
    have h1I : (t.size : Int) < n := by omega
    go_enter Tryz.func180, Tryz.ntmps180
    go_wp2_with fail
    go_ret
    exact ⟨by rw [ANS.out]; rfl, rfl⟩
  have h1I : ¬ (t.size : Int) < n := by omega
  have h0 : 0 < t.size := by omega
  have hb0 := byteAt_get h0
  by_cases h2 : byteAt t 0 < lo
  · have ANS := Lib.hid (show decide (followsP t n lo hi) = false from decide_eq_false (fun h => by have := h.2.1; omega))
    go_enter Tryz.func180, Tryz.ntmps180
    go_wp2_with fail
    go_ret
    exact ⟨by rw [ANS.out]; rfl, rfl⟩
  by_cases h3 : hi < byteAt t 0
  · have ANS := Lib.hid (show decide (followsP t n lo hi) = false from decide_eq_false (fun h => by have := h.2.2.1; omega))
    go_enter Tryz.func180, Tryz.ntmps180
    go_wp2_with fail
    go_ret
    exact ⟨by rw [ANS.out]; rfl, rfl⟩
  go_enter Tryz.func180, Tryz.ntmps180
  go_wp2_with fail
  clear hb0
  have hlo : lo ≤ byteAt t 0 := by omega
  have hhi : byteAt t 0 ≤ hi := by omega
  have hnt : n ≤ t.size := by omega
  clear h1 h1I h2 h3
  go_loop [9] (fun i => ∃ k : Nat, i = .int .i64 k ∧ 1 ≤ k ∧ k ≤ n ∧ ∀ j, 1 ≤ j → j < k → 128 ≤ byteAt t j ∧ byteAt t j ≤ 191) (fun i => n - (intOf i).toNat)
  case atStart => exact ⟨1, rfl, Nat.le_refl _, hn1, fun j a b => by omega⟩
  case round =>
    obtain ⟨k, rfl, hk1, hkn, hlow⟩ := hrel
    have LOW := Lib.hid hlow
    clear hlow
    by_cases hlt : k < n
    case neg =>
      obtain rfl : k = n := by omega
      have hltI : ¬ (k : Int) < k := by omega
      have ANS := Lib.hid (show decide (followsP t k lo hi) = true from decide_eq_true ⟨hnt, hlo, hhi, LOW.out⟩)
      go_wp2_with fail
      go_ret
      exact ⟨by rw [ANS.out]; rfl, rfl⟩
    case pos =>
      have hltI : (k : Int) < n := by omega
      have hkt : (k : Int) < t.size := by omega
      have hk0 : (0 : Int) ≤ k := by omega
      have hbk := byteAt_get (show k < t.size by omega)
      have hbd := byteAt_bd t k
      have ha := and192 hbd.1 hbd.2
      by_cases hl : 128 ≤ byteAt t k ∧ byteAt t k ≤ 191
      · rw [decide_eq_false (fun h => h hl)] at ha
        have HL := Lib.hid hl
        clear hl hbd
        go_wp2_with fail
        go_round
        case rel =>
          refine ⟨k + 1, by go_num, by omega, by omega, fun j a b => ?_⟩
          by_cases hj : j = k
          · rw [hj]; exact HL.out
          · exact LOW.out j a (by omega)
        case measure => simp [intOf]; omega
      · rw [decide_eq_true hl] at ha
        have ANS := Lib.hid (show decide (followsP t n lo hi) = false from decide_eq_false (fun h => hl (h.2.2.2 k hk1 hlt)))
        clear hl hbd
        go_wp2_with fail
        go_ret
        exact ⟨by rw [ANS.out]; rfl, rfl⟩
theorem follows_runeW {s : ByteArray} (h0 : 0 < s.size) (h1 : 194 ≤ byteAt s 0) (h2 : byteAt s 0 ≤ 244) :
    runeW s 0 = if followsP (s.extract 1 s.size) (tailN (byteAt s 0)) (loB (byteAt s 0)) (hiB (byteAt s 0)) then tailN (byteAt s 0) + 1 else 0 := by
  have hs : (s.extract 1 s.size).size = s.size - 1 := by simp
  have hx := fun j => byteAt_extract s 1 j (by omega)
  have ht : 1 ≤ tailN (byteAt s 0) ∧ tailN (byteAt s 0) ≤ 3 := by unfold tailN; split <;> (try split) <;> omega
  have e : (inB s (0 + 1) (loB (byteAt s 0)) (hiB (byteAt s 0)) ∧ (2 ≤ tailN (byteAt s 0) → inB s (0 + 2) 128 191) ∧ (3 ≤ tailN (byteAt s 0) → inB s (0 + 3) 128 191)) ↔ followsP (s.extract 1 s.size) (tailN (byteAt s 0)) (loB (byteAt s 0)) (hiB (byteAt s 0)) := by
    unfold followsP inB
    rw [hs]
    simp only [hx, Nat.zero_add, Nat.add_zero]
    generalize tailN (byteAt s 0) = n at *
    constructor
    · rintro ⟨⟨a1, a2, a3⟩, b, c⟩
      refine ⟨?_, a2, a3, fun j hj1 hj2 => ?_⟩
      · by_cases h3 : 3 ≤ n
        · have := (c h3).1; omega
        · by_cases h4 : 2 ≤ n
          · have := (b h4).1; omega
          · omega
      · by_cases hj : j = 1
        · subst hj; exact (b (by omega)).2
        · have : j = 2 := by omega
          subst this; exact (c (by omega)).2
    · rintro ⟨a, b, c, d⟩
      exact ⟨⟨by omega, b, c⟩, fun h => ⟨by omega, d 1 (Nat.le_refl _) (by omega)⟩, fun h => ⟨by omega, d 2 (by omega) (by omega)⟩⟩
  unfold runeW
  rw [if_neg (by omega), if_neg (by omega)]
  by_cases hf : followsP (s.extract 1 s.size) (tailN (byteAt s 0)) (loB (byteAt s 0)) (hiB (byteAt s 0))
  · rw [if_pos hf, if_pos (e.2 hf)]
  · rw [if_neg hf, if_neg (fun h => hf (e.1 h))]
/-- follows, by its answer -/
theorem follows_b (t : ByteArray) (n : Nat) (lo hi : Int) (hn1 : 1 ≤ n) (hn : n ≤ 3) (ht : t.size ≤ maxLen) {b : Bool} (hb : decide (followsP t n lo hi) = b) (w : World) : Calls Tryz.prog 180 #[.string t, .int .i64 n, .int .u8 lo, .int .u8 hi] w fun e w' => e = .returned (.bool b) ∧ w' = w := hb ▸ follows_any t n lo hi hn1 hn ht w
set_option maxRecDepth 100000 in
set_option maxHeartbeats 8000000 in
theorem width_any (s : ByteArray) (h0 : 0 < s.size) (hs : s.size ≤ maxLen) (w : World) : Calls Tryz.prog 154 #[.string s] w fun e w' => e = .returned (.int .i64 (runeW s 0)) ∧ w' = w := by
  have hbd := byteAt_bd s 0
  have hb0 := byteAt_get h0
  have hfr := follows_runeW h0
  have hxs : (s.extract 1 s.size).size ≤ maxLen := by simp; omega
  unfold maxLen at hs
  by_cases c1 : byteAt s 0 < 128
  · have ANS := Lib.hid (show runeW s 0 = 1 from if_pos c1)
    clear hfr hbd
    go_enter Tryz.func154, Tryz.ntmps154
    go_wp2_with fail
    go_ret
    exact ⟨by rw [ANS.out]; rfl, rfl⟩
  by_cases c2 : byteAt s 0 < 194
  · have ANS := Lib.hid (show runeW s 0 = 0 by unfold runeW; rw [if_neg c1, if_pos (.inl c2)])
    clear hfr hbd
    go_enter Tryz.func154, Tryz.ntmps154
    go_wp2_with fail
    go_ret
    exact ⟨by rw [ANS.out]; rfl, rfl⟩
  by_cases c3 : 244 < byteAt s 0
  · have ANS := Lib.hid (show runeW s 0 = 0 by unfold runeW; rw [if_neg c1, if_pos (.inr c3)])
    clear hfr hbd
    go_enter Tryz.func154, Tryz.ntmps154
    go_wp2_with fail
    go_ret
    exact ⟨by rw [ANS.out]; rfl, rfl⟩
  have hfr := hfr (by omega) (by omega)
  obtain ⟨n, lo, hi, hn1, hn3, hw, hcase⟩ : ∃ (n : Nat) (lo hi : Int), 1 ≤ n ∧ n ≤ 3 ∧ runeW s 0 = (if followsP (s.extract 1 s.size) n lo hi then n + 1 else 0) ∧
      ((byteAt s 0 < 224 ∧ n = 1 ∧ lo = 128 ∧ hi = 191) ∨ (byteAt s 0 = 224 ∧ n = 2 ∧ lo = 160 ∧ hi = 191) ∨ (byteAt s 0 = 237 ∧ n = 2 ∧ lo = 128 ∧ hi = 159) ∨ (224 < byteAt s 0 ∧ byteAt s 0 < 240 ∧ byteAt s 0 ≠ 237 ∧ n = 2 ∧ lo = 128 ∧ hi = 191) ∨
        (byteAt s 0 = 240 ∧ n = 3 ∧ lo = 144 ∧ hi = 191) ∨ (byteAt s 0 = 244 ∧ n = 3 ∧ lo = 128 ∧ hi = 143) ∨ (240 < byteAt s 0 ∧ byteAt s 0 < 244 ∧ n = 3 ∧ lo = 128 ∧ hi = 191)) := by
    refine ⟨tailN (byteAt s 0), loB (byteAt s 0), hiB (byteAt s 0), ?_, ?_, hfr, ?_⟩
    · unfold tailN; split <;> (try split) <;> omega
    · unfold tailN; split <;> (try split) <;> omega
    · unfold tailN loB hiB
      generalize byteAt s 0 = a at *
      split <;> split <;> split <;> omega
  clear hfr
  obtain ⟨b, hb⟩ : ∃ b, decide (followsP (s.extract 1 s.size) n lo hi) = b := ⟨_, rfl⟩
  have HF := Lib.hid (follows_b (s.extract 1 s.size) n lo hi hn1 hn3 hxs hb w)
  have ANS : Hid (runeW s 0 = if b = true then n + 1 else 0) := Lib.hid (by
    rw [hw, ← hb]
    by_cases h : followsP (s.extract 1 s.size) n lo hi
    · rw [if_pos h, if_pos (decide_eq_true h)]
    · rw [if_neg h, if_neg (fun e => h (of_decide_eq_true e))])
  clear hw hb hxs hbd hn1 hn3
  generalize byteAt s 0 = a at *
  have fin : ∀ (e : Ending) (w' : World), e = .returned (.int .i64 ((if b = true then n + 1 else 0 : Nat) : Int)) → w' = w → e = .returned (.int .i64 (runeW s 0)) ∧ w' = w := fun _ _ h1 h2 => ⟨by rw [ANS.out]; exact h1, h2⟩
  have FIN := Lib.hid fin
  clear fin ANS
  rcases hcase with ⟨e1, rfl, rfl, rfl⟩ | ⟨rfl, rfl, rfl, rfl⟩ | ⟨rfl, rfl, rfl, rfl⟩ | ⟨e1, e2, e3, rfl, rfl, rfl⟩ | ⟨rfl, rfl, rfl, rfl⟩ | ⟨rfl, rfl, rfl, rfl⟩ | ⟨e1, e2, rfl, rfl, rfl⟩
  rotate_left 3
  · have f1 : (a == 224) = false := beq_eq_false_iff_ne.2 (by omega)
    have f2 : (a == 237) = false := beq_eq_false_iff_ne.2 e3
    have f3 : ¬ a < 224 := by omega
    clear e1 e3
    cases b
    all_goals
      go_enter Tryz.func154, Tryz.ntmps154
      go_wp2_with (go_at_call 180; refine HF.out.mono ?_; rintro e w' ⟨rfl, rfl⟩)
      go_ret
      exact FIN.out _ _ rfl rfl
  rotate_left 2
  · have f1 : (a == 224) = false := beq_eq_false_iff_ne.2 (by omega)
    have f2 : (a == 237) = false := beq_eq_false_iff_ne.2 (by omega)
    have f3 : ¬ a < 224 := by omega
    have f4 : ¬ a < 240 := by omega
    have f5 : (a == 240) = false := beq_eq_false_iff_ne.2 (by omega)
    have f6 : (a == 244) = false := beq_eq_false_iff_ne.2 (by omega)
    clear e1 e2
    cases b
    all_goals
      go_enter Tryz.func154, Tryz.ntmps154
      go_wp2_with (go_at_call 180; refine HF.out.mono ?_; rintro e w' ⟨rfl, rfl⟩)
      go_ret
      exact FIN.out _ _ rfl rfl
  all_goals
    cases b
    all_goals
      go_enter Tryz.func154, Tryz.ntmps154
      go_wp2_with (go_at_call 180; refine HF.out.mono ?_; rintro e w' ⟨rfl, rfl⟩)
      go_ret
      exact FIN.out _ _ rfl rfl
end Go.Proofs.YtjohljmpcblpjaaGreatDoor
namespace Go.Proofs.YtjohljmpcblpjaaGreatDoor
open Go.RowKit Go.Proofs.YtjohljmpcblpjaaGreatDoor.Gl
namespace Gl
/-- how far the next piece is -/
def stepW (s : ByteArray) (i : Nat) : Nat := if runeW s i = 0 then 1 else runeW s i
theorem stepW_pos (s : ByteArray) (i : Nat) : 1 ≤ stepW s i := by unfold stepW; split <;> omega
theorem stepW_in {s : ByteArray} {i : Nat} (h : i < s.size) : i + stepW s i ≤ s.size := by
  unfold stepW
  split
  · omega
  · rename_i hn
    unfold runeW at hn ⊢
    split
    · omega
    · rename_i h1
      rw [if_neg h1] at hn
      split
      · rename_i h2
        rw [if_pos h2] at hn
        exact absurd rfl hn
      · rename_i h2
        rw [if_neg h2] at hn
        split
        · rename_i h3
          unfold inB at h3
          unfold tailN at h3 ⊢
          split
          · omega
          · split
            · rename_i h4 h5
              have := (h3.2.1 (by rw [if_neg h4, if_pos h5]; omega)).1
              omega
            · rename_i h4 h5
              have := (h3.2.2 (by rw [if_neg h4, if_neg h5]; omega)).1
              omega
        · rename_i h3
          rw [if_neg h3] at hn
          exact absurd rfl hn
/-- where pieces begin -/
def startsN (s : ByteArray) : Nat → Nat → List Nat
  | 0, _ => []
  | n + 1, i => if i < s.size then i :: startsN s n (i + stepW s i) else []
theorem startsN_same (s : ByteArray) : ∀ (n m i : Nat), s.size - i ≤ n → s.size - i ≤ m → startsN s n i = startsN s m i
  | 0, m, i, h, _ => by
    have hi : ¬ i < s.size := by omega
    cases m with
    | zero => rfl
    | succ m => simp [startsN, hi]
  | n + 1, 0, i, _, h => by
    have hi : ¬ i < s.size := by omega
    simp [startsN, hi]
  | n + 1, m + 1, i, h1, h2 => by
    unfold startsN
    split
    · have := stepW_pos s i
      rw [startsN_same s n m (i + stepW s i) (by omega) (by omega)]
    · rfl
def pieces (s : ByteArray) (i : Nat) : List Nat := startsN s (s.size - i) i
theorem pieces_end {s : ByteArray} {i : Nat} (h : ¬ i < s.size) : pieces s i = [] := by
  unfold pieces
  rw [show s.size - i = 0 by omega]
  rfl
theorem pieces_next {s : ByteArray} {i : Nat} (h : i < s.size) : pieces s i = i :: pieces s (i + stepW s i) := by
  unfold pieces
  rw [show s.size - i = (s.size - i - 1) + 1 by omega]
  unfold startsN
  rw [if_pos h]
  have := stepW_pos s i
  rw [startsN_same s (s.size - i - 1) (s.size - (i + stepW s i)) _ (by omega) (by omega)]
  cases hh : s.size - (i + stepW s i) with
  | zero => rfl
  | succ n => rfl
def countR (s : ByteArray) : Nat := (pieces s 0).length
theorem pieces_len (s : ByteArray) (n : Nat) : ∀ i : Nat, s.size - i ≤ n → (pieces s i).length ≤ s.size - i := by
  induction n with
  | zero =>
    intro i hn
    rw [pieces_end (by omega)]
    exact Nat.zero_le _
  | succ n ih =>
    intro i hn
    by_cases h : i < s.size
    · have h1 := stepW_pos s i
      have := ih (i + stepW s i) (by omega)
      rw [pieces_next h, List.length_cons]
      omega
    · rw [pieces_end h]; exact Nat.zero_le _
theorem countR_le (s : ByteArray) : countR s ≤ s.size := by
  have := pieces_len s s.size 0 (by omega)
  unfold countR
  omega
/-- the first piece that is no rune; -1: there is none -/
def badFrom (s : ByteArray) (i : Nat) : Int := match (pieces s i).find? (fun j => decide (runeW s j = 0)) with
  | some j => j
  | none => -1
theorem badFrom_end {s : ByteArray} {i : Nat} (h : ¬ i < s.size) : badFrom s i = -1 := by unfold badFrom; rw [pieces_end h]; rfl
theorem badFrom_bad {s : ByteArray} {i : Nat} (h : i < s.size) (hb : runeW s i = 0) : badFrom s i = i := by
  unfold badFrom
  rw [pieces_next h, List.find?_cons_of_pos (by simpa using hb)]
theorem badFrom_good {s : ByteArray} {i : Nat} (h : i < s.size) (hb : runeW s i ≠ 0) : badFrom s i = badFrom s (i + stepW s i) := by
  unfold badFrom
  rw [pieces_next h, List.find?_cons_of_neg (by simpa using hb)]
end Gl
theorem iter_kept (w : World) (s : ByteArray) (p : Nat) : Kept (fun _ => False) w (w.iter s p) := (Kept.refl _ _).alloc _
set_option maxRecDepth 100000 in
set_option maxHeartbeats 2000000 in
theorem count_any (s : ByteArray) (hs : s.size ≤ maxLen) (w : World) : Calls Tryz.prog 127 #[.string s] w fun e w' => e = .returned (.int .i64 (countR s)) ∧ ∃ p, w' = w.iter s p := by
  unfold maxLen at hs
  have hcl := countR_le s
  go_enter Tryz.func127, Tryz.ntmps127
  go_wp2_with fail
  go_loopw [3] (fun nv wr => ∃ (k i : Nat), nv = .int .i64 k ∧ i ≤ s.size ∧ wr = w.iter s i ∧ k + (pieces s i).length = countR s) (fun nv _ => countR s - (intOf nv).toNat)
  case atStart => exact ⟨0, 0, rfl, Nat.zero_le _, rfl, by unfold countR; omega⟩
  case round =>
    obtain ⟨k, i, rfl, hi, rfl, hk⟩ := hrel
    by_cases hlt : i < s.size
    · have hnx := fun ty => run_next_any (P := Tryz.prog) w s i ty hlt
      have hd := decode_runeW s i
      have hst : (Utf8.decode s i).2 = stepW s i := hd.1
      have hin := stepW_in hlt
      rw [pieces_next hlt, List.length_cons] at hk
      have HK := Lib.hid hk
      rw [hst] at hnx
      have hkl : k + 1 ≤ s.size := by omega
      have hk0 : (0 : Int) ≤ k := by omega
      generalize (Utf8.decode s i).1 = r at *
      clear hd hst hk
      go_wp2_with fail
      go_roundw
      case rel => exact ⟨k + 1, i + stepW s i, by go_num, hin, rfl, by have := HK.out; omega⟩
      case measure => have := HK.out; simp [intOf]; omega
    · obtain rfl : i = s.size := by omega
      have hnx := fun ty => run_next_end (P := Tryz.prog) w s s.size ty hlt
      rw [pieces_end hlt] at hk
      have HK := Lib.hid (show k = countR s from hk)
      clear hk
      go_wp2_with fail
      go_ret
      exact ⟨by rw [HK.out]; rfl, _, rfl⟩
/-- width of what is left from a place on -/
theorem width_from (s : ByteArray) (i : Nat) (h : i < s.size) (hs : s.size ≤ maxLen) {n : Nat} (hn : runeW s i = n) (w : World) : Calls Tryz.prog 154 #[.string (s.extract i s.size)] w fun e w' => e = .returned (.int .i64 n) ∧ w' = w := by
  have := width_any (s.extract i s.size) (by simp; omega) (by simp; omega) w
  rw [runeW_extract s i (by omega), hn] at this
  exact this
set_option maxRecDepth 100000 in
set_option maxHeartbeats 4000000 in
theorem badAt_any (s : ByteArray) (hs : s.size ≤ maxLen) (w : World) : Calls Tryz.prog 126 #[.string s] w fun e w' => e = .returned (.int .i64 (badFrom s 0)) ∧ ∃ p, w' = w.iter s p := by
  have hs2 := hs
  unfold maxLen at hs
  go_enter Tryz.func126, Tryz.ntmps126
  go_wp2_with fail
  go_loopw [3] (fun _ wr => ∃ i : Nat, i ≤ s.size ∧ wr = w.iter s i ∧ badFrom s 0 = badFrom s i) (fun _ wr => s.size - wr.iterPos w.heap.size)
  case atStart => exact ⟨0, Nat.zero_le _, rfl, rfl⟩
  case round =>
    obtain ⟨i, hi, rfl, hb⟩ := hrel
    have HB := Lib.hid hb
    clear hb
    by_cases hlt : i < s.size
    case neg =>
      obtain rfl : i = s.size := by omega
      have hnx := fun ty => run_next_end (P := Tryz.prog) w s s.size ty hlt
      have HE := Lib.hid (badFrom_end hlt)
      go_wp2_with fail
      go_ret
      exact ⟨by rw [HB.out, HE.out]; rfl, _, rfl⟩
    case pos =>
      have hnx := fun ty => run_next_any (P := Tryz.prog) w s i ty hlt
      have hd := decode_runeW s i
      have hst : (Utf8.decode s i).2 = stepW s i := hd.1
      have hin := stepW_in hlt
      have hsp := stepW_pos s i
      have hltI : (i : Int) < s.size := by omega
      have hleI : (i : Int) ≤ s.size := by omega
      have hi0 : (0 : Int) ≤ i := by omega
      rw [hst] at hnx
      by_cases h0 : runeW s i = 0
      case pos =>
        have hr := hd.2 h0
        rw [hr] at hnx
        have HE := Lib.hid (badFrom_bad hlt h0)
        have HF := Lib.hid (fun (w' : World) => width_from s i hlt hs2 h0 w')
        clear hd hst hr h0 hsp hin
        go_wp2_with (go_at_call 154; refine (HF.out _).mono ?_; rintro e w' ⟨rfl, rfl⟩)
        go_ret
        exact ⟨by rw [HB.out, HE.out]; rfl, _, rfl⟩
      case neg =>
        have HE := Lib.hid (badFrom_good hlt h0)
        by_cases h1 : (Utf8.decode s i).1 = 65533
        · rw [h1] at hnx
          obtain ⟨n, hn⟩ : ∃ n, runeW s i = n := ⟨_, rfl⟩
          have hnb : ((n : Int) == 0) = false := beq_eq_false_iff_ne.2 (by omega)
          have HF := Lib.hid (fun (w' : World) => width_from s i hlt hs2 hn w')
          clear hd hst h1 hn h0
          go_wp2_with (go_at_call 154; refine (HF.out _).mono ?_; rintro e w' ⟨rfl, rfl⟩)
          go_roundw
          case rel => exact ⟨i + stepW s i, hin, rfl, by rw [HB.out, HE.out]⟩
          case measure => simp; omega
        · generalize (Utf8.decode s i).1 = r at *
          have hrb : ((r : Int) == 65533) = false := beq_eq_false_iff_ne.2 (by omega)
          clear hd hst h1 h0
          go_wp2_with fail
          go_roundw
          case rel => exact ⟨i + stepW s i, hin, rfl, by rw [HB.out, HE.out]⟩
          case measure => simp; omega
end Go.Proofs.YtjohljmpcblpjaaGreatDoor
namespace Go.Proofs.YtjohljmpcblpjaaGreatDoor.St

def Run.Ok (r : Run) : Prop := 1 ≤ r.c ∧ r.id.Is ∧ r.c - 1 ≤ 2147483647 - r.id.t
instance Run.decOk (r : Run) : Decidable r.Ok := by unfold Run.Ok; infer_instance
def Run.last (r : Run) : ID := if r.c < 1 then ID.zero else r.id.after (r.c - 1)
theorem last_ok {r : Run} (h : r.Ok) : r.last = ⟨r.id.t + r.c - 1, r.id.s⟩ := by
  unfold Run.Ok at h
  unfold Run.last ID.after
  rw [if_neg (by omega), if_pos ⟨h.2.1, by omega, h.2.2⟩, ID.ext_iff]
  exact ⟨by show r.id.t + (r.c - 1) = r.id.t + r.c - 1; omega, rfl⟩
theorem last_zero {r : Run} : r.last = ID.zero ↔ ¬ r.Ok := by
  constructor
  · intro h hok
    rw [last_ok hok] at h
    have h1 := congrArg ID.s h
    have h2 := hok.2.1
    unfold ID.Is at h2
    simp only [ID.zero] at h1
    omega
  · intro h
    unfold Run.last
    split
    · rfl
    · rename_i hc
      unfold ID.after
      rw [if_neg]
      rintro ⟨h1, h2, h3⟩
      exact h ⟨by omega, h1, h3⟩
/-- why a run may not stand behind these -/
def why (pre : List Run) (x : Run) : Int :=
  if ¬ x.Ok then 1 else if ∃ p, pre.getLast? = some p ∧ ¬ p.id.lt x.id then 9 else if ∃ p ∈ pre, p.id.s = x.id.s ∧ x.id.t ≤ p.id.t + p.c then 6 else 0
def Good (l : List Run) : Prop := ∀ (n : Nat) (x : Run), l[n]? = some x → why (l.take n) x = 0
def CheckIs (l : List Run) (e : Int) : Prop := (e = 0 ∧ Good l) ∨ ∃ (n : Nat) (x : Run), l[n]? = some x ∧ Good (l.take n) ∧ why (l.take n) x = e ∧ e ≠ 0
theorem good_take {l : List Run} {n : Nat} : Good (l.take n) ↔ ∀ (j : Nat) (x : Run), j < n → l[j]? = some x → why (l.take j) x = 0 := by
  unfold Good
  constructor
  · intro h j x hj hx
    have := h j x (by rw [List.getElem?_take, if_pos hj]; exact hx)
    rwa [List.take_take, Nat.min_eq_left (Nat.le_of_lt hj)] at this
  · intro h j x hx
    rw [List.getElem?_take] at hx
    split at hx
    · rename_i hj
      rw [List.take_take, Nat.min_eq_left (Nat.le_of_lt hj)]
      exact h j x hj hx
    · cases hx
theorem good_all {l : List Run} (h : Good l) (n : Nat) : Good (l.take n) := good_take.2 fun j x _ hx => h j x hx
theorem good_snoc {l : List Run} {x : Run} : Good (l ++ [x]) ↔ Good l ∧ why l x = 0 := by
  constructor
  · intro h
    constructor
    · have := good_all h l.length
      rwa [List.take_left] at this
    · have := h l.length x (by simp)
      rwa [List.take_left] at this
  · rintro ⟨h1, h2⟩ n y hy
    by_cases hn : n < l.length
    · rw [List.getElem?_append_left hn] at hy
      rw [List.take_append_of_le_length (by omega)]
      exact h1 n y hy
    · have hl := (List.getElem?_eq_some_iff.1 hy).1
      simp at hl
      obtain rfl : n = l.length := by omega
      simp at hy
      subst hy
      rw [List.take_left]
      exact h2
theorem CheckIs.unique {l : List Run} {e f : Int} (h : CheckIs l e) (h' : CheckIs l f) : e = f := by
  rcases h with ⟨rfl, h⟩ | ⟨n, x, h1, h2, h3, h4⟩ <;> rcases h' with ⟨rfl, h'⟩ | ⟨m, y, g1, g2, g3, g4⟩
  · rfl
  · exact absurd (g3.symm.trans (h m y g1)) g4
  · exact absurd (h3.symm.trans (h' n x h1)) h4
  · rcases Nat.lt_trichotomy n m with hl | rfl | hl
    · exact absurd (h3.symm.trans (good_take.1 g2 n x hl h1)) h4
    · rw [h1] at g1; cases g1; exact h3.symm.trans g3
    · exact absurd (g3.symm.trans (good_take.1 h2 m y hl g1)) g4
theorem CheckIs.range {l : List Run} {e : Int} (h : CheckIs l e) : e = 0 ∨ e = 1 ∨ e = 9 ∨ e = 6 := by
  rcases h with ⟨rfl, _⟩ | ⟨n, x, _, _, h, _⟩
  · exact .inl rfl
  · unfold why at h
    split at h
    · exact .inr (.inl h.symm)
    · split at h
      · exact .inr (.inr (.inl h.symm))
      · split at h
        · exact .inr (.inr (.inr h.symm))
        · exact .inl h.symm
theorem why_ok {pre : List Run} {x : Run} (h : why pre x = 0) : x.Ok ∧ (∀ p, pre.getLast? = some p → p.id.lt x.id) ∧ ∀ p ∈ pre, p.id.s = x.id.s → p.id.t + p.c < x.id.t := by
  unfold why at h
  split at h
  · cases h
  · split at h
    · cases h
    · split at h
      · cases h
      · rename_i h1 h2 h3
        refine ⟨by simpa using h1, fun p hp => ?_, fun p hp hs => ?_⟩
        · by_cases hl : p.id.lt x.id
          · exact hl
          · exact absurd ⟨p, hp, hl⟩ h2
        · by_cases hl : p.id.t + p.c < x.id.t
          · exact hl
          · exact absurd ⟨p, hp, hs, by omega⟩ h3
theorem snocR {P : List Run → Prop} (h0 : P []) (h1 : ∀ l x, P l → P (l ++ [x])) (l : List Run) : P l := by
  have : ∀ n (l : List Run), l.length = n → P l := fun n => by
    induction n with
    | zero => intro l hl; rw [List.length_eq_zero_iff.1 hl]; exact h0
    | succ n ih =>
      intro l hl
      have hne : l ≠ [] := by rintro rfl; simp at hl
      rw [← List.dropLast_concat_getLast hne]
      exact h1 _ _ (ih _ (by simp [hl]))
  exact this _ l rfl
theorem Good.ok {l : List Run} (h : Good l) : ∀ r ∈ l, r.Ok := fun r hr => by
  obtain ⟨n, hn⟩ := List.getElem?_of_mem hr
  exact (why_ok (h n r hn)).1
/-- the last one of a site -/
def lastOf (l : List Run) (s : Int) : Option Run := (l.filter fun r => decide (r.id.s = s)).getLast?
theorem lastOf_snoc (l : List Run) (x : Run) (s : Int) : lastOf (l ++ [x]) s = if x.id.s = s then some x else lastOf l s := by
  unfold lastOf
  rw [List.filter_append]
  by_cases h : x.id.s = s
  · rw [if_pos h]; simp [h]
  · rw [if_neg h]; simp [h]
theorem lastOf_mem {l : List Run} {s : Int} {r : Run} (h : lastOf l s = some r) : r ∈ l ∧ r.id.s = s := by
  have := List.mem_of_getLast? h
  rw [List.mem_filter] at this
  exact ⟨this.1, by simpa using this.2⟩
theorem lastOf_none {l : List Run} {s : Int} (h : lastOf l s = none) : ∀ p ∈ l, p.id.s ≠ s := by
  unfold lastOf at h
  rw [List.getLast?_eq_none_iff, List.filter_eq_nil_iff] at h
  intro p hp e
  exact h p hp (by simpa using e)
theorem lastOf_max {l : List Run} (hg : Good l) {s : Int} {r : Run} (h : lastOf l s = some r) : ∀ p ∈ l, p.id.s = s → p.id.t + p.c ≤ r.id.t + r.c := by
  induction l using snocR generalizing r with
  | h0 => intro p hp; cases hp
  | h1 l x ih =>
    obtain ⟨g1, g2⟩ := good_snoc.1 hg
    obtain ⟨w1, w2, w3⟩ := why_ok g2
    rw [lastOf_snoc] at h
    intro p hp hs
    split at h
    · rename_i hx
      cases h
      rcases List.mem_append.1 hp with hp | hp
      · have := w3 p hp (hs.trans hx.symm)
        have := w1.1
        omega
      · simp only [List.mem_cons, List.not_mem_nil, or_false] at hp
        subst hp; exact Int.le_refl _
    · rename_i hx
      rcases List.mem_append.1 hp with hp | hp
      · exact ih g1 h p hp hs
      · simp only [List.mem_cons, List.not_mem_nil, or_false] at hp
        subst hp; exact absurd hs hx
theorem form_iff {l : List Run} (hg : Good l) (x : Run) : (∃ p ∈ l, p.id.s = x.id.s ∧ x.id.t ≤ p.id.t + p.c) ↔ ∃ r, lastOf l x.id.s = some r ∧ x.id.t ≤ r.id.t + r.c := by
  constructor
  · rintro ⟨p, hp, hs, ht⟩
    cases h : lastOf l x.id.s with
    | none => exact absurd hs (lastOf_none h p hp)
    | some r => exact ⟨r, rfl, by have := lastOf_max hg h p hp hs; omega⟩
  · rintro ⟨r, hr, ht⟩
    exact ⟨r, (lastOf_mem hr).1, (lastOf_mem hr).2, ht⟩

/-- has a run this identifier? -/
def Run.has (r : Run) (x : ID) : Bool := decide (r.id.s = x.s ∧ r.id.t ≤ x.t ∧ x.t ≤ r.last.t)
def HasIs (l : List Run) (x : ID) (b : Bool) : Prop := b = true ↔ Good l ∧ ∃ r ∈ l, r.id.s = x.s ∧ r.id.t ≤ x.t ∧ x.t < r.id.t + r.c
theorem HasIs.unique {l : List Run} {x : ID} {b c : Bool} (h : HasIs l x b) (h' : HasIs l x c) : b = c := by
  rw [Bool.eq_iff_iff]; exact h.trans h'.symm
theorem has_ok {r : Run} (h : r.Ok) (x : ID) : r.has x = true ↔ r.id.s = x.s ∧ r.id.t ≤ x.t ∧ x.t < r.id.t + r.c := by
  unfold Run.has
  rw [decide_eq_true_iff, last_ok h]
  simp only
  omega
theorem hasIs_bad {l : List Run} {x : ID} (h : ¬ Good l) : HasIs l x false := ⟨fun e => (nomatch e), fun e => absurd e.1 h⟩
theorem hasIs_any {l : List Run} {x : ID} (h : Good l) : HasIs l x (l.any fun r => r.has x) := by
  unfold HasIs
  rw [List.any_eq_true]
  constructor
  · rintro ⟨r, hr, hh⟩
    exact ⟨h, r, hr, (has_ok (h.ok r hr) x).1 hh⟩
  · rintro ⟨_, r, hr, hh⟩
    exact ⟨r, hr, (has_ok (h.ok r hr) x).2 hh⟩
theorem CheckIs.good {l : List Run} {e : Int} (h : CheckIs l e) : Good l ↔ e = 0 := by
  constructor
  · intro hg; exact h.unique (.inl ⟨rfl, hg⟩)
  · rintro rfl
    rcases h with ⟨_, h⟩ | ⟨n, x, _, _, _, h⟩
    · exact h
    · exact absurd rfl h
end Go.Proofs.YtjohljmpcblpjaaGreatDoor.St
namespace Go.Proofs.YtjohljmpcblpjaaGreatDoor.St
open Go.RowKit

theorem rcompare_core (at_ as_ bt bs : Int) (w : World) : Calls Tryz.prog 123 #[.agg #[.int .i64 at_, .int .i64 as_], .agg #[.int .i64 bt, .int .i64 bs]] w fun e w' => e = .returned (.int .i64 (ID.cmp ⟨at_, as_⟩ ⟨bt, bs⟩)) ∧ Grew w w' := by
  have hg := Grew.alloc (Grew.alloc (Grew.refl w) (.cells #[.int .i64 at_, .int .i64 as_] 59)) (.cells #[.int .i64 bt, .int .i64 bs] 59)
  have hz : ∀ {v : Int}, ID.cmp ⟨at_, as_⟩ ⟨bt, bs⟩ = v → Hid (ID.cmp ⟨at_, as_⟩ ⟨bt, bs⟩ = v) := fun h => h
  have G := Lib.hid hg
  clear hg
  by_cases h1 : at_ < bt
  · rw [show ID.cmp ⟨at_, as_⟩ ⟨bt, bs⟩ = -1 by rw [cmp_eq, if_pos (.inl h1)]]
    have e1 : (at_ == bt) = false := by simp; omega
    go_enter Tryz.func123, Tryz.ntmps123
    go_wp2_with fail
    go_ret
    exact ⟨rfl, G.out⟩
  · by_cases h2 : bt < at_
    · rw [show ID.cmp ⟨at_, as_⟩ ⟨bt, bs⟩ = 1 by rw [cmp_eq, if_neg (by unfold ID.lt; simp only; omega), if_pos (.inl h2)]]
      have e1 : (at_ == bt) = false := by simp; omega
      go_enter Tryz.func123, Tryz.ntmps123
      go_wp2_with fail
      go_ret
      exact ⟨rfl, G.out⟩
    · obtain rfl : at_ = bt := by omega
      by_cases h3 : as_ < bs
      · rw [show ID.cmp ⟨at_, as_⟩ ⟨at_, bs⟩ = -1 by rw [cmp_eq, if_pos (.inr ⟨rfl, h3⟩)]]
        have e1 : (as_ == bs) = false := by simp; omega
        go_enter Tryz.func123, Tryz.ntmps123
        go_wp2_with fail
        go_ret
        exact ⟨rfl, G.out⟩
      · by_cases h4 : bs < as_
        · rw [show ID.cmp ⟨at_, as_⟩ ⟨at_, bs⟩ = 1 by rw [cmp_eq, if_neg (by unfold ID.lt; simp only; omega), if_pos (.inr ⟨rfl, h4⟩)]]
          have e1 : (as_ == bs) = false := by simp; omega
          go_enter Tryz.func123, Tryz.ntmps123
          go_wp2_with fail
          go_ret
          exact ⟨rfl, G.out⟩
        · obtain rfl : as_ = bs := by omega
          rw [show ID.cmp ⟨at_, as_⟩ ⟨at_, as_⟩ = 0 from cmp_zero.2 rfl]
          go_enter Tryz.func123, Tryz.ntmps123
          go_wp2_with fail
          go_ret
          exact ⟨rfl, G.out⟩
theorem rcompare_any (a b : ID) (w : World) : Calls Tryz.prog 123 #[idV a, idV b] w fun e w' => e = .returned (.int .i64 (a.cmp b)) ∧ Grew w w' := rcompare_core a.t a.s b.t b.s w
theorem rafter_core (t s n : Int) (hn : -9223372036854775808 ≤ n) (hn2 : n ≤ 9223372036854775807) (w : World) : Calls Tryz.prog 121 #[.agg #[.int .i64 t, .int .i64 s], .int .i64 n] w fun e w' => e = .returned (idV (ID.after ⟨t, s⟩ n)) ∧ Grew w w' := by
  have hg := Grew.alloc (Grew.alloc (Grew.refl w) (.cells #[.int .i64 t, .int .i64 s] 59)) (.cells #[.int .i64 0, .int .i64 0] 59)
  have hb0 := Blk.alloc (Blk.new w 59 #[.int .i64 t, .int .i64 s]) (.cells #[.int .i64 0, .int .i64 0] 59)
  have hb1 := Blk.new (w.alloc (.cells #[.int .i64 t, .int .i64 s] 59)) 59 #[.int .i64 0, .int .i64 0]
  rw [World.size_alloc] at hb1
  have hc := isid_core t s ((w.alloc (.cells #[.int .i64 t, .int .i64 s] 59)).alloc (.cells #[.int .i64 0, .int .i64 0] 59))
  have H0 := Lib.hid hb0
  have H1 := Lib.hid hb1
  clear hb0 hb1
  cases hb : isB ⟨t, s⟩
  · have e : ID.after ⟨t, s⟩ n = ID.zero := by unfold ID.after; rw [if_neg]; intro h; simp [isB, h.1] at hb
    rw [e]
    rw [hb] at hc
    clear hb e
    go_enter Tryz.func121, Tryz.ntmps121
    go_wp2_with fail
    refine hc.mono ?_
    rintro e w' ⟨rfl, hg2⟩
    have hb1 := hg2.box H1.out
    have c0 : _ = some (Value.int .i64 0) := hb1.cell' (i := 0) rfl
    have c1 : _ = some (Value.int .i64 0) := hb1.cell' (i := 1) rfl
    have f0 := hb1.frozen 0
    have f1 := hb1.frozen 1
    have G := Lib.hid (hg.trans hg2)
    clear hg hg2 hb1 hc
    go_wp2_with fail
    refine bodyPost_ret (v := .agg #[.int .i64 0, .int .i64 0]) (by simp [results, Tryz.results121, go_sem, c0, c1]) rfl ⟨rfl, (G.out.setCell (by simp) _).setCell (by simp) _⟩
  · have hI := isB_true hb
    unfold ID.Is at hI
    obtain ⟨i1, i2, i3, i4⟩ := hI
    simp only at i1 i2 i3 i4
    have hIs := Lib.hid (isB_true hb)
    rw [hb] at hc
    clear hb
    by_cases hx : 0 ≤ n ∧ n ≤ 2147483647 - t
    · obtain ⟨x1, x2⟩ := hx
      have e : ID.after ⟨t, s⟩ n = ⟨t + n, s⟩ := by unfold ID.after; rw [if_pos ⟨hIs.out, x1, x2⟩]
      rw [e]
      clear e
      go_enter Tryz.func121, Tryz.ntmps121
      go_wp2_with fail
      refine hc.mono ?_
      rintro e w' ⟨rfl, hg2⟩
      have hb0 := hg2.box H0.out
      have hb1 := hg2.box H1.out
      have d0 : _ = some (Value.int .i64 t) := hb0.cell' (i := 0) rfl
      have d1 : _ = some (Value.int .i64 s) := hb0.cell' (i := 1) rfl
      have e0 := hb0.frozen 0
      have e1 := hb0.frozen 1
      have c0 : _ = some (Value.int .i64 0) := hb1.cell' (i := 0) rfl
      have c1 : _ = some (Value.int .i64 0) := hb1.cell' (i := 1) rfl
      have f0 := hb1.frozen 0
      have f1 := hb1.frozen 1
      have G := Lib.hid (hg.trans hg2)
      clear hg hg2 hb1 hb0 hc
      go_wp2_with fail
      refine bodyPost_ret (v := .agg #[.int .i64 (t + n), .int .i64 s]) (by simp [results, Tryz.results121, go_sem, c0, c1]) rfl ⟨rfl, (G.out.setCell (by simp) _).setCell (by simp) _⟩
    · have e : ID.after ⟨t, s⟩ n = ID.zero := by unfold ID.after; rw [if_neg]; intro h; exact hx ⟨h.2.1, h.2.2⟩
      rw [e]
      clear e
      rcases (show n < 0 ∨ (0 ≤ n ∧ 2147483647 - t < n) by omega) with x1 | ⟨x1, x2⟩
      all_goals
        go_enter Tryz.func121, Tryz.ntmps121
        go_wp2_with fail
        refine hc.mono ?_
        rintro e w' ⟨rfl, hg2⟩
        have hb0 := hg2.box H0.out
        have hb1 := hg2.box H1.out
        have d0 : _ = some (Value.int .i64 t) := hb0.cell' (i := 0) rfl
        have c0 : _ = some (Value.int .i64 0) := hb1.cell' (i := 0) rfl
        have c1 : _ = some (Value.int .i64 0) := hb1.cell' (i := 1) rfl
        have f0 := hb1.frozen 0
        have f1 := hb1.frozen 1
        have G := Lib.hid (hg.trans hg2)
        clear hg hg2 hb1 hb0 hc
        go_wp2_with fail
        refine bodyPost_ret (v := .agg #[.int .i64 0, .int .i64 0]) (by simp [results, Tryz.results121, go_sem, c0, c1]) rfl ⟨rfl, (G.out.setCell (by simp) _).setCell (by simp) _⟩
theorem rafter_any (a : ID) (n : Int) (hn : -9223372036854775808 ≤ n) (hn2 : n ≤ 9223372036854775807) (w : World) : Calls Tryz.prog 121 #[idV a, .int .i64 n] w fun e w' => e = .returned (idV (a.after n)) ∧ Grew w w' := rafter_core a.t a.s n hn hn2 w

theorem last_core (t s c : Int) (hc1 : -9223372036854775808 ≤ c) (hc2 : c ≤ 9223372036854775807) (w : World) : Calls Tryz.prog 225 #[.agg #[.int .i64 t, .int .i64 s, .int .i64 c]] w fun e w' => e = .returned (idV (if c < 1 then ID.zero else ID.after ⟨t, s⟩ (c - 1))) ∧ Grew w w' := by
  have hg := Grew.alloc (Grew.alloc (Grew.refl w) (.cells #[.int .i64 t, .int .i64 s, .int .i64 c] 89)) (.cells #[.int .i64 0, .int .i64 0] 59)
  have hb1 := Blk.new (w.alloc (.cells #[.int .i64 t, .int .i64 s, .int .i64 c] 89)) 59 #[.int .i64 0, .int .i64 0]
  rw [World.size_alloc] at hb1
  by_cases h : c < 1
  · rw [if_pos h]
    have G := Lib.hid hg
    clear hg hb1
    go_enter Tryz.func225, Tryz.ntmps225
    go_wp2_with fail
    exact bodyPost_ret (v := .agg #[.int .i64 0, .int .i64 0]) (by simp [results, Tryz.results225, go_sem]) rfl ⟨rfl, G.out⟩
  · rw [if_neg h]
    have ha := after_core t s (c - 1) (by omega) (by omega) ((w.alloc (.cells #[.int .i64 t, .int .i64 s, .int .i64 c] 89)).alloc (.cells #[.int .i64 0, .int .i64 0] 59))
    generalize ID.after ⟨t, s⟩ (c - 1) = a at ha ⊢
    obtain ⟨x, y⟩ := a
    have G0 := Lib.hid hg
    have H1 := Lib.hid hb1
    clear hg hb1
    go_enter Tryz.func225, Tryz.ntmps225
    go_wp2_with fail
    refine ha.mono ?_
    rintro e w' ⟨rfl, hg2⟩
    have hb1 := hg2.box H1.out
    have c0 : _ = some (Value.int .i64 0) := hb1.cell' (i := 0) rfl
    have c1 : _ = some (Value.int .i64 0) := hb1.cell' (i := 1) rfl
    have f0 := hb1.frozen 0
    have f1 := hb1.frozen 1
    have G := Lib.hid (G0.out.trans hg2)
    clear hg2 hb1
    unfold idV
    go_wp2_with fail
    refine bodyPost_ret (v := .agg #[.int .i64 x, .int .i64 y]) (by simp [results, Tryz.results225, go_sem, c0, c1]) rfl ⟨rfl, (G.out.setCell (by simp) _).setCell (by simp) _⟩
end Go.Proofs.YtjohljmpcblpjaaGreatDoor.St
