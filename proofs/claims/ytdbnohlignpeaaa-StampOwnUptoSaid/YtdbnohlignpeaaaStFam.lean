/- Six rows, each in memory of its own: words for StampOwn. -/
import Derived.Test.YtdbnohlignpeaaaStBack
import Derived.Test.YtdbnohlignpeaaaStKeep
namespace Go.Proofs.Ytdbnohlignpeaaa
open Go.RowKit Go.Proofs.Ytdbnohlignpeaaa.St
namespace stampOwn
def Firm (H : World → (Nat → Prop) → Prop) : Prop := ∀ (w w' : World) (F S : Nat → Prop), H w F → Kept S w w' → (∀ b, F b → ¬ S b) → H w' F
/-- six things, each in memory of its own, from B on -/
structure Fam (B : Nat) (H : Nat → World → (Nat → Prop) → Prop) (G : Nat → Nat → Prop) (w : World) : Prop where
  holds : ∀ s, s < 6 → H s w (G s)
  lo : ∀ s, s < 6 → ∀ b, G s b → B ≤ b ∧ b < w.heap.size
  apart : ∀ s t, s < 6 → t < 6 → s ≠ t → ∀ b, G s b → ¬ G t b
theorem Fam.turn2 {B : Nat} {H H' : Nat → World → (Nat → Prop) → Prop} {G : Nat → Nat → Prop} {w w' : World} {S : Nat → Prop} (h : Fam B H G w) (s0 : Nat) (hs0 : s0 + 1 < 6)
    (hsame : ∀ s, s < 6 → s ≠ s0 → s ≠ s0 + 1 → H' s = H s ∧ Firm (H s)) (hk : Kept S w w') (hS : ∀ b, S b → b < w.heap.size → B ≤ b → G s0 b ∨ G (s0 + 1) b) {F0 F1 : Nat → Prop}
    (h0 : H' s0 w' F0) (h1 : H' (s0 + 1) w' F1) (l0 : ∀ b, F0 b → B ≤ b ∧ b < w'.heap.size ∧ (b < w.heap.size → G s0 b)) (l1 : ∀ b, F1 b → B ≤ b ∧ b < w'.heap.size ∧ (b < w.heap.size → G (s0 + 1) b)) (hd : ∀ b, F0 b → ¬ F1 b) :
    Fam B H' (fun s => if s = s0 then F0 else if s = s0 + 1 then F1 else G s) w' := by
  have hne : s0 + 1 ≠ s0 := by omega
  refine ⟨fun s hs => ?_, fun s hs b hb => ?_, fun s t hs ht hst b hb hb' => ?_⟩
  · by_cases e0 : s = s0
    · subst e0; simp only [if_pos]; exact h0
    · by_cases e1 : s = s0 + 1
      · subst e1; simp only [hne, if_false, if_true]; exact h1
      · simp only [e0, e1, if_false]
        obtain ⟨e, hf⟩ := hsame s hs e0 e1
        rw [e]
        have hk' : Kept (fun b => S b ∧ b < w.heap.size) w w' := hk.mono (fun i hi h => ⟨h, hi⟩)
        exact hf w w' (G s) _ (h.holds s hs) hk' (fun b hb hSb => by
          rcases hS b hSb.1 hSb.2 (h.lo s hs b hb).1 with hg | hg
          · exact h.apart s s0 hs (by omega) e0 b hb hg
          · exact h.apart s (s0 + 1) hs hs0 e1 b hb hg)
  · by_cases e0 : s = s0
    · subst e0; simp only [if_true] at hb; exact ⟨(l0 b hb).1, (l0 b hb).2.1⟩
    · by_cases e1 : s = s0 + 1
      · subst e1; simp only [hne, if_false, if_true] at hb; exact ⟨(l1 b hb).1, (l1 b hb).2.1⟩
      · simp only [e0, e1, if_false] at hb
        exact ⟨(h.lo s hs b hb).1, Nat.lt_of_lt_of_le (h.lo s hs b hb).2 hk.size⟩
  · have key : ∀ (a c : Nat → Prop) (x : Nat), a b → c b → (a b → b < w.heap.size → G x b) → True := fun _ _ _ _ _ _ => trivial
    clear key
    by_cases e0 : s = s0
    · subst e0
      simp only [if_true] at hb
      by_cases f1 : t = s + 1
      · subst f1; simp only [hne, if_false, if_true] at hb'; exact hd b hb hb'
      · simp only [Ne.symm hst, f1, if_false] at hb'
        exact h.apart s t hs ht hst b ((l0 b hb).2.2 (h.lo t ht b hb').2) hb'
    · by_cases e1 : s = s0 + 1
      · subst e1
        simp only [hne, if_false, if_true] at hb
        by_cases f0 : t = s0
        · subst f0; simp only [if_true] at hb'; exact hd b hb' hb
        · simp only [f0, Ne.symm hst, if_false] at hb'
          exact h.apart _ t hs ht hst b ((l1 b hb).2.2 (h.lo t ht b hb').2) hb'
      · simp only [e0, e1, if_false] at hb
        by_cases f0 : t = s0
        · subst f0; simp only [if_true] at hb'
          exact h.apart s t hs ht hst b hb ((l0 b hb').2.2 (h.lo s hs b hb).2)
        · by_cases f1 : t = s0 + 1
          · subst f1; simp only [hne, if_false, if_true] at hb'
            exact h.apart s _ hs ht hst b hb ((l1 b hb').2.2 (h.lo s hs b hb).2)
          · simp only [f0, f1, if_false] at hb'
            exact h.apart s t hs ht hst b hb hb'
/-- a row as StampOwn has it: none, written over (1), gone on from (2) -/
def HG {α : Type} (E : Enc α) (t : TypeId) (a1 a2 : α) (k : Nat) (v x : Value) (w : World) (F : Nat → Prop) : Prop :=
  (k = 0 ∧ v = .slice none 0 0 ∧ x = .slice none 0 0 ∧ ∀ b, ¬ F b) ∨
  (k = 1 ∧ x = .slice none 0 0 ∧ (∀ b, v.ownBlock = some b → F b) ∧ ∃ d, d ≤ 100000 ∧ w.ownsRow 0 t E.k v d (E.flat (List.replicate d a1))) ∨
  (k = 2 ∧ (∀ b, v.ownBlock = some b → F b) ∧ (∀ b, x.ownBlock = some b → F b) ∧ ∃ d, d ≤ 100000 ∧ SlAt E w v (List.replicate d a1) ∧ SlAt E w x (List.replicate d a1 ++ List.replicate 40 a2))
theorem HG.firm {α : Type} (E : Enc α) (t : TypeId) (a1 a2 : α) (k : Nat) (v x : Value) : Firm (HG E t a1 a2 k v x) := by
  rintro w w' F S (⟨h1, h2, h3, h4⟩ | ⟨h1, h2, h3, d, h4, h5⟩ | ⟨h1, h2, h3, d, h4, h5, h6⟩) hk hs
  · exact .inl ⟨h1, h2, h3, h4⟩
  · exact .inr (.inl ⟨h1, h2, h3, d, h4, owns_keep h5 hk (fun b hb => hs b (h3 b hb))⟩)
  · exact .inr (.inr ⟨h1, h2, h3, d, h4, h5.keep hk (fun b hb _ => hs b (h2 b hb)), h6.keep hk (fun b hb _ => hs b (h3 b hb))⟩)
def b1 (j : Nat) : UInt8 := UInt8.ofNat (10 + j)
def b2 (j : Nat) : UInt8 := UInt8.ofNat (100 + j)
def r1 (j : Nat) : Run := ⟨⟨0, 0⟩, 10 + j⟩
def r2 (j : Nat) : Run := ⟨⟨0, 0⟩, 100 + j⟩
def HH (st : Nat → Nat) (v x : Nat → Value) (s : Nat) : World → (Nat → Prop) → Prop :=
  if s % 2 = 0 then HG byteE 5 (b1 (s / 2)) (b2 (s / 2)) (st s) (v s) (x s) else HG runE 35 (r1 (s / 2)) (r2 (s / 2)) (st s) (v s) (x s)
theorem HH.even {st : Nat → Nat} {v x : Nat → Value} (j : Nat) : HH st v x (2 * j) = HG byteE 5 (b1 j) (b2 j) (st (2 * j)) (v (2 * j)) (x (2 * j)) := by
  unfold HH
  rw [if_pos (by omega), show 2 * j / 2 = j by omega]
theorem HH.odd {st : Nat → Nat} {v x : Nat → Value} (j : Nat) : HH st v x (2 * j + 1) = HG runE 35 (r1 j) (r2 j) (st (2 * j + 1)) (v (2 * j + 1)) (x (2 * j + 1)) := by
  unfold HH
  rw [if_neg (by omega), show (2 * j + 1) / 2 = j by omega]
theorem HH.firm (st : Nat → Nat) (v x : Nat → Value) (s : Nat) : Firm (HH st v x s) := by
  unfold HH
  split
  · exact HG.firm _ _ _ _ _ _ _
  · exact HG.firm _ _ _ _ _ _ _
def up (f : Nat → Value) (s : Nat) (y : Value) : Nat → Value := fun t => if t = s then y else f t
/-- the four arrays -/
def Arr (w : World) (R : Nat) (v x : Nat → Value) : Prop :=
  Blk w R 51 #[v 0, v 2, v 4] ∧ Blk w (R + 1) 51 #[x 0, x 2, x 4] ∧ Blk w (R + 1 + 1) 52 #[v 1, v 3, v 5] ∧ Blk w (R + 1 + 1 + 1) 52 #[x 1, x 3, x 5]
theorem tri (f : Nat → Value) {n : Nat} (h : n < 3) : (#[f 0, f 2, f 4] : Array Value)[n]? = some (f (2 * n)) := by
  rcases (show n = 0 ∨ n = 1 ∨ n = 2 by omega) with rfl | rfl | rfl <;> rfl
theorem tri1 (f : Nat → Value) {n : Nat} (h : n < 3) : (#[f 1, f 3, f 5] : Array Value)[n]? = some (f (2 * n + 1)) := by
  rcases (show n = 0 ∨ n = 1 ∨ n = 2 by omega) with rfl | rfl | rfl <;> rfl
theorem tri_set (f : Nat → Value) {n : Nat} (h : n < 3) (y : Value) : (#[f 0, f 2, f 4] : Array Value).setIfInBounds n y = #[up f (2 * n) y 0, up f (2 * n) y 2, up f (2 * n) y 4] := by
  rcases (show n = 0 ∨ n = 1 ∨ n = 2 by omega) with rfl | rfl | rfl <;> rfl
theorem tri_set1 (f : Nat → Value) {n : Nat} (h : n < 3) (y : Value) : (#[f 1, f 3, f 5] : Array Value).setIfInBounds n y = #[up f (2 * n + 1) y 1, up f (2 * n + 1) y 3, up f (2 * n + 1) y 5] := by
  rcases (show n = 0 ∨ n = 1 ∨ n = 2 by omega) with rfl | rfl | rfl <;> rfl
theorem tri_up (f : Nat → Value) (n : Nat) (y : Value) : (#[up f (2 * n + 1) y 0, up f (2 * n + 1) y 2, up f (2 * n + 1) y 4] : Array Value) = #[f 0, f 2, f 4] := by
  simp only [up]
  rw [if_neg (by omega), if_neg (by omega), if_neg (by omega)]
theorem tri_up1 (f : Nat → Value) (n : Nat) (y : Value) : (#[up f (2 * n) y 1, up f (2 * n) y 3, up f (2 * n) y 5] : Array Value) = #[f 1, f 3, f 5] := by
  simp only [up]
  rw [if_neg (by omega), if_neg (by omega), if_neg (by omega)]
theorem Arr.keep {w w' : World} {R : Nat} {v x : Nat → Value} {S : Nat → Prop} (h : Arr w R v x) (hk : Kept S w w') (hs : ∀ b, S b → R + 4 ≤ b) : Arr w' R v x :=
  ⟨hk.blk (fun h => by have := hs _ h; omega) h.1, hk.blk (fun h => by have := hs _ h; omega) h.2.1, hk.blk (fun h => by have := hs _ h; omega) h.2.2.1, hk.blk (fun h => by have := hs _ h; omega) h.2.2.2⟩
theorem Arr.setR {w : World} {R : Nat} {v x : Nat → Value} (h : Arr w R v x) {n : Nat} (hn : n < 3) (y : Value) : Arr (w.setCell ⟨R, n, none⟩ y) R (up v (2 * n) y) x :=
  ⟨by rw [← tri_set v hn]; exact h.1.set_ n y, h.2.1.far (by simp) y, by rw [tri_up1]; exact h.2.2.1.far (by simp <;> omega) y, h.2.2.2.far (by simp <;> omega) y⟩
theorem Arr.setP {w : World} {R : Nat} {v x : Nat → Value} (h : Arr w R v x) {n : Nat} (hn : n < 3) (y : Value) : Arr (w.setCell ⟨R + 1 + 1, n, none⟩ y) R (up v (2 * n + 1) y) x :=
  ⟨by rw [tri_up]; exact h.1.far (by simp <;> omega) y, h.2.1.far (by simp) y, by rw [← tri_set1 v hn]; exact h.2.2.1.set_ n y, h.2.2.2.far (by simp) y⟩
theorem Arr.setL {w : World} {R : Nat} {v x : Nat → Value} (h : Arr w R v x) {n : Nat} (hn : n < 3) (y : Value) : Arr (w.setCell ⟨R + 1, n, none⟩ y) R v (up x (2 * n) y) :=
  ⟨h.1.far (by simp) y, by rw [← tri_set x hn]; exact h.2.1.set_ n y, h.2.2.1.far (by simp) y, by rw [tri_up1]; exact h.2.2.2.far (by simp <;> omega) y⟩
theorem Arr.setM {w : World} {R : Nat} {v x : Nat → Value} (h : Arr w R v x) {n : Nat} (hn : n < 3) (y : Value) : Arr (w.setCell ⟨R + 1 + 1 + 1, n, none⟩ y) R v (up x (2 * n + 1) y) :=
  ⟨h.1.far (by simp <;> omega) y, by rw [tri_up]; exact h.2.1.far (by simp <;> omega) y, h.2.2.1.far (by simp) y, by rw [← tri_set1 x hn]; exact h.2.2.2.set_ n y⟩
end stampOwn
end Go.Proofs.Ytdbnohlignpeaaa
