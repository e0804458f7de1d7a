/- glyph.follows and width. -/
import Derived.Test.YtaaeomapbigfgaaW25
import Derived.Test.YtaaeomapbigfgaaW3
import Derived.Lib.Hide
import Derived.IntWalk
namespace Go.Proofs.Ytaaeomapbigfgaa
open Go.RowKit Go.Proofs.Ytaaeomapbigfgaa.Gl
/-- do so many bytes follow? -/
def followsP (t : ByteArray) (n : Nat) (lo hi : Int) : Prop := n ≤ t.size ∧ lo ≤ byteAt t 0 ∧ byteAt t 0 ≤ hi ∧ ∀ j, 1 ≤ j → j < n → 128 ≤ byteAt t j ∧ byteAt t j ≤ 191
instance (t : ByteArray) (n : Nat) (lo hi : Int) : Decidable (followsP t n lo hi) := by
  unfold followsP
  have : Decidable (∀ j, 1 ≤ j → j < n → 128 ≤ byteAt t j ∧ byteAt t j ≤ 191) := decidable_of_iff (∀ j, j < n → 1 ≤ j → 128 ≤ byteAt t j ∧ byteAt t j ≤ 191) ⟨fun h j a b => h j b a, fun h j a b => h j b a⟩
  infer_instance
theorem and192 {b : Int} (h0 : 0 ≤ b) (h1 : b ≤ 255) : (bits BinOp.and IntKind.u8 b 192 != 128) = decide (¬ (128 ≤ b ∧ b ≤ 191)) := by
  have key : ∀ n : Fin 256, (bits BinOp.and IntKind.u8 (n.val : Int) 192 != 128) = decide (¬ (128 ≤ (n.val : Int) ∧ (n.val : Int) ≤ 191)) := by decide +kernel
  have := key ⟨b.toNat, by omega⟩
  have e : ((b.toNat : Nat) : Int) = b := by omega
  simpa only [e] using this
set_option maxHeartbeats 2000000 in
theorem follows_any (t : ByteArray) (n : Nat) (lo hi : Int) (hn1 : 1 ≤ n) (hn : n ≤ 3) (ht : t.size ≤ maxLen) (w : World) : Calls Try.prog 98 #[.string t, .int .i64 n, .int .u8 lo, .int .u8 hi] w fun e w' => e = .returned (.bool (decide (followsP t n lo hi))) ∧ w' = w := by
  unfold maxLen at ht
  by_cases h1 : t.size < n
  · have ANS := Lib.hid (show decide (followsP t n lo hi) = false from decide_eq_false (fun h => by have := h.1; omega))
    have h1I : (t.size : Int) < n := by omega
    go_enter Try.func98, Try.ntmps98
    go_wp2_with fail
    go_ret
    exact ⟨by rw [ANS.out]; rfl, rfl⟩
  have h1I : ¬ (t.size : Int) < n := by omega
  have h0 : 0 < t.size := by omega
  have hb0 := byteAt_get h0
  by_cases h2 : byteAt t 0 < lo
  · have ANS := Lib.hid (show decide (followsP t n lo hi) = false from decide_eq_false (fun h => by have := h.2.1; omega))
    go_enter Try.func98, Try.ntmps98
    go_wp2_with fail
    go_ret
    exact ⟨by rw [ANS.out]; rfl, rfl⟩
  by_cases h3 : hi < byteAt t 0
  · have ANS := Lib.hid (show decide (followsP t n lo hi) = false from decide_eq_false (fun h => by have := h.2.2.1; omega))
    go_enter Try.func98, Try.ntmps98
    go_wp2_with fail
    go_ret
    exact ⟨by rw [ANS.out]; rfl, rfl⟩
  go_enter Try.func98, Try.ntmps98
  go_wp2_with fail
  clear hb0
  have hlo : lo ≤ byteAt t 0 := by omega
  have hhi : byteAt t 0 ≤ hi := by omega
  have hnt : n ≤ t.size := by omega
  clear h1 h1I h2 h3
  go_loop [9] (fun i => ∃ k : Nat, i = .int .i64 k ∧ 1 ≤ k ∧ k ≤ n ∧ ∀ j, 1 ≤ j → j < k → 128 ≤ byteAt t j ∧ byteAt t j ≤ 191) (fun i => n - (intOf i).toNat)
  case atStart => exact ⟨1, rfl, Nat.le_refl _, hn1, fun j a b => by omega⟩
  case round =>
    obtain ⟨k, rfl, hk1, hkn, hlow⟩ := hrel
    have LOW := Lib.hid hlow
    clear hlow
    by_cases hlt : k < n
    case neg =>
      obtain rfl : k = n := by omega
      have hltI : ¬ (k : Int) < k := by omega
      have ANS := Lib.hid (show decide (followsP t k lo hi) = true from decide_eq_true ⟨hnt, hlo, hhi, LOW.out⟩)
      go_wp2_with fail
      go_ret
      exact ⟨by rw [ANS.out]; rfl, rfl⟩
    case pos =>
      have hltI : (k : Int) < n := by omega
      have hkt : (k : Int) < t.size := by omega
      have hk0 : (0 : Int) ≤ k := by omega
      have hbk := byteAt_get (show k < t.size by omega)
      have hbd := byteAt_bd t k
      have ha := and192 hbd.1 hbd.2
      by_cases hl : 128 ≤ byteAt t k ∧ byteAt t k ≤ 191
      · rw [decide_eq_false (fun h => h hl)] at ha
        have HL := Lib.hid hl
        clear hl hbd
        go_wp2_with fail
        go_round
        case rel =>
          refine ⟨k + 1, by go_num, by omega, by omega, fun j a b => ?_⟩
          by_cases hj : j = k
          · rw [hj]; exact HL.out
          · exact LOW.out j a (by omega)
        case measure => simp [intOf]; omega
      · rw [decide_eq_true hl] at ha
        have ANS := Lib.hid (show decide (followsP t n lo hi) = false from decide_eq_false (fun h => hl (h.2.2.2 k hk1 hlt)))
        clear hl hbd
        go_wp2_with fail
        go_ret
        exact ⟨by rw [ANS.out]; rfl, rfl⟩
theorem follows_runeW {s : ByteArray} (h0 : 0 < s.size) (h1 : 194 ≤ byteAt s 0) (h2 : byteAt s 0 ≤ 244) :
    runeW s 0 = if followsP (s.extract 1 s.size) (tailN (byteAt s 0)) (loB (byteAt s 0)) (hiB (byteAt s 0)) then tailN (byteAt s 0) + 1 else 0 := by
  have hs : (s.extract 1 s.size).size = s.size - 1 := by simp
  have hx := fun j => byteAt_extract s 1 j (by omega)
  have ht : 1 ≤ tailN (byteAt s 0) ∧ tailN (byteAt s 0) ≤ 3 := by unfold tailN; split <;> (try split) <;> omega
  have e : (inB s (0 + 1) (loB (byteAt s 0)) (hiB (byteAt s 0)) ∧ (2 ≤ tailN (byteAt s 0) → inB s (0 + 2) 128 191) ∧ (3 ≤ tailN (byteAt s 0) → inB s (0 + 3) 128 191)) ↔ followsP (s.extract 1 s.size) (tailN (byteAt s 0)) (loB (byteAt s 0)) (hiB (byteAt s 0)) := by
    unfold followsP inB
    rw [hs]
    simp only [hx, Nat.zero_add, Nat.add_zero]
    generalize tailN (byteAt s 0) = n at *
    constructor
    · rintro ⟨⟨a1, a2, a3⟩, b, c⟩
      refine ⟨?_, a2, a3, fun j hj1 hj2 => ?_⟩
      · by_cases h3 : 3 ≤ n
        · have := (c h3).1; omega
        · by_cases h4 : 2 ≤ n
          · have := (b h4).1; omega
          · omega
      · by_cases hj : j = 1
        · subst hj; exact (b (by omega)).2
        · have : j = 2 := by omega
          subst this; exact (c (by omega)).2
    · rintro ⟨a, b, c, d⟩
      exact ⟨⟨by omega, b, c⟩, fun h => ⟨by omega, d 1 (Nat.le_refl _) (by omega)⟩, fun h => ⟨by omega, d 2 (by omega) (by omega)⟩⟩
  unfold runeW
  rw [if_neg (by omega), if_neg (by omega)]
  by_cases hf : followsP (s.extract 1 s.size) (tailN (byteAt s 0)) (loB (byteAt s 0)) (hiB (byteAt s 0))
  · rw [if_pos hf, if_pos (e.2 hf)]
  · rw [if_neg hf, if_neg (fun h => hf (e.1 h))]
/-- follows, by its answer -/
theorem follows_b (t : ByteArray) (n : Nat) (lo hi : Int) (hn1 : 1 ≤ n) (hn : n ≤ 3) (ht : t.size ≤ maxLen) {b : Bool} (hb : decide (followsP t n lo hi) = b) (w : World) : Calls Try.prog 98 #[.string t, .int .i64 n, .int .u8 lo, .int .u8 hi] w fun e w' => e = .returned (.bool b) ∧ w' = w := hb ▸ follows_any t n lo hi hn1 hn ht w
set_option maxRecDepth 100000 in
set_option maxHeartbeats 8000000 in
theorem width_any (s : ByteArray) (h0 : 0 < s.size) (hs : s.size ≤ maxLen) (w : World) : Calls Try.prog 96 #[.string s] w fun e w' => e = .returned (.int .i64 (runeW s 0)) ∧ w' = w := by
  have hbd := byteAt_bd s 0
  have hb0 := byteAt_get h0
  have hfr := follows_runeW h0
  have hxs : (s.extract 1 s.size).size ≤ maxLen := by simp; omega
  unfold maxLen at hs
  by_cases c1 : byteAt s 0 < 128
  · have ANS := Lib.hid (show runeW s 0 = 1 from if_pos c1)
    clear hfr hbd
    go_enter Try.func96, Try.ntmps96
    go_wp2_with fail
    go_ret
    exact ⟨by rw [ANS.out]; rfl, rfl⟩
  by_cases c2 : byteAt s 0 < 194
  · have ANS := Lib.hid (show runeW s 0 = 0 by unfold runeW; rw [if_neg c1, if_pos (.inl c2)])
    clear hfr hbd
    go_enter Try.func96, Try.ntmps96
    go_wp2_with fail
    go_ret
    exact ⟨by rw [ANS.out]; rfl, rfl⟩
  by_cases c3 : 244 < byteAt s 0
  · have ANS := Lib.hid (show runeW s 0 = 0 by unfold runeW; rw [if_neg c1, if_pos (.inr c3)])
    clear hfr hbd
    go_enter Try.func96, Try.ntmps96
    go_wp2_with fail
    go_ret
    exact ⟨by rw [ANS.out]; rfl, rfl⟩
  have hfr := hfr (by omega) (by omega)
  obtain ⟨n, lo, hi, hn1, hn3, hw, hcase⟩ : ∃ (n : Nat) (lo hi : Int), 1 ≤ n ∧ n ≤ 3 ∧ runeW s 0 = (if followsP (s.extract 1 s.size) n lo hi then n + 1 else 0) ∧
      ((byteAt s 0 < 224 ∧ n = 1 ∧ lo = 128 ∧ hi = 191) ∨ (byteAt s 0 = 224 ∧ n = 2 ∧ lo = 160 ∧ hi = 191) ∨ (byteAt s 0 = 237 ∧ n = 2 ∧ lo = 128 ∧ hi = 159) ∨ (224 < byteAt s 0 ∧ byteAt s 0 < 240 ∧ byteAt s 0 ≠ 237 ∧ n = 2 ∧ lo = 128 ∧ hi = 191) ∨
        (byteAt s 0 = 240 ∧ n = 3 ∧ lo = 144 ∧ hi = 191) ∨ (byteAt s 0 = 244 ∧ n = 3 ∧ lo = 128 ∧ hi = 143) ∨ (240 < byteAt s 0 ∧ byteAt s 0 < 244 ∧ n = 3 ∧ lo = 128 ∧ hi = 191)) := by
    refine ⟨tailN (byteAt s 0), loB (byteAt s 0), hiB (byteAt s 0), ?_, ?_, hfr, ?_⟩
    · unfold tailN; split <;> (try split) <;> omega
    · unfold tailN; split <;> (try split) <;> omega
    · unfold tailN loB hiB
      generalize byteAt s 0 = a at *
      split <;> split <;> split <;> omega
  clear hfr
  obtain ⟨b, hb⟩ : ∃ b, decide (followsP (s.extract 1 s.size) n lo hi) = b := ⟨_, rfl⟩
  have HF := Lib.hid (follows_b (s.extract 1 s.size) n lo hi hn1 hn3 hxs hb w)
  have ANS : Hid (runeW s 0 = if b = true then n + 1 else 0) := Lib.hid (by
    rw [hw, ← hb]
    by_cases h : followsP (s.extract 1 s.size) n lo hi
    · rw [if_pos h, if_pos (decide_eq_true h)]
    · rw [if_neg h, if_neg (fun e => h (of_decide_eq_true e))])
  clear hw hb hxs hbd hn1 hn3
  generalize byteAt s 0 = a at *
  have fin : ∀ (e : Ending) (w' : World), e = .returned (.int .i64 ((if b = true then n + 1 else 0 : Nat) : Int)) → w' = w → e = .returned (.int .i64 (runeW s 0)) ∧ w' = w := fun _ _ h1 h2 => ⟨by rw [ANS.out]; exact h1, h2⟩
  have FIN := Lib.hid fin
  clear fin ANS
  rcases hcase with ⟨e1, rfl, rfl, rfl⟩ | ⟨rfl, rfl, rfl, rfl⟩ | ⟨rfl, rfl, rfl, rfl⟩ | ⟨e1, e2, e3, rfl, rfl, rfl⟩ | ⟨rfl, rfl, rfl, rfl⟩ | ⟨rfl, rfl, rfl, rfl⟩ | ⟨e1, e2, rfl, rfl, rfl⟩
  rotate_left 3
  · have f1 : (a == 224) = false := beq_eq_false_iff_ne.2 (by omega)
    have f2 : (a == 237) = false := beq_eq_false_iff_ne.2 e3
    have f3 : ¬ a < 224 := by omega
    clear e1 e3
    cases b
    all_goals
      go_enter Try.func96, Try.ntmps96
      go_wp2_with (go_at_call 98; refine HF.out.mono ?_; rintro e w' ⟨rfl, rfl⟩)
      go_ret
      exact FIN.out _ _ rfl rfl
  rotate_left 2
  · have f1 : (a == 224) = false := beq_eq_false_iff_ne.2 (by omega)
    have f2 : (a == 237) = false := beq_eq_false_iff_ne.2 (by omega)
    have f3 : ¬ a < 224 := by omega
    have f4 : ¬ a < 240 := by omega
    have f5 : (a == 240) = false := beq_eq_false_iff_ne.2 (by omega)
    have f6 : (a == 244) = false := beq_eq_false_iff_ne.2 (by omega)
    clear e1 e2
    cases b
    all_goals
      go_enter Try.func96, Try.ntmps96
      go_wp2_with (go_at_call 98; refine HF.out.mono ?_; rintro e w' ⟨rfl, rfl⟩)
      go_ret
      exact FIN.out _ _ rfl rfl
  all_goals
    cases b
    all_goals
      go_enter Try.func96, Try.ntmps96
      go_wp2_with (go_at_call 98; refine HF.out.mono ?_; rintro e w' ⟨rfl, rfl⟩)
      go_ret
      exact FIN.out _ _ rfl rfl
end Go.Proofs.Ytaaeomapbigfgaa
