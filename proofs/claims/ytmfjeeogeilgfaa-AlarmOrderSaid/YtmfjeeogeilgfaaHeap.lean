/- The plain law of a binary heap over a function of places: what 'up' and 'down' of a heap keep. No program in sight. -/
namespace Go.Proofs.Ytmfjeeogeilgfaa.Hp

/-- exchange of two places -/
def swf {α : Type} (f : Nat → α) (i k : Nat) : Nat → α := fun j => if j = i then f k else if j = k then f i else f j

section
variable {α : Type} (le : α → α → Prop)

/-- a heap on the places below n -/
def Ok (f : Nat → α) (n : Nat) : Prop := ∀ k, 0 < k → k < n → le (f ((k - 1) / 2)) (f k)
/-- a heap but at j against the one above it -/
def Up (f : Nat → α) (n j : Nat) : Prop :=
  (∀ k, 0 < k → k < n → k ≠ j → le (f ((k - 1) / 2)) (f k)) ∧ (0 < j → ∀ k, 0 < k → k < n → (k - 1) / 2 = j → le (f ((j - 1) / 2)) (f k))
/-- a heap but at i against those below it (and at i0 against the one above it, as long as i is i0) -/
def Down (f : Nat → α) (n i i0 : Nat) : Prop :=
  (∀ k, 0 < k → k < n → (k - 1) / 2 ≠ i → ¬ (k = i0 ∧ i = i0) → le (f ((k - 1) / 2)) (f k)) ∧ (0 < i → ∀ k, 0 < k → k < n → (k - 1) / 2 = i → le (f ((i - 1) / 2)) (f k)) ∧ i0 ≤ i

variable {le}
theorem up_zero {f : Nat → α} {n : Nat} (h : Up le f n 0) : Ok le f n := fun k h0 hn => h.1 k h0 hn (by omega)
theorem up_stop {f : Nat → α} {n j : Nat} (h : Up le f n j) (hl : le (f ((j - 1) / 2)) (f j)) : Ok le f n := fun k h0 hn => by
  by_cases e : k = j
  · subst e; exact hl
  · exact h.1 k h0 hn e
theorem up_step {f : Nat → α} {n j : Nat} (tr : ∀ {a b c}, le a b → le b c → le a c) (h : Up le f n j) (h0 : 0 < j) (hj : j < n) (hl : le (f j) (f ((j - 1) / 2))) :
    Up le (swf f ((j - 1) / 2) j) n ((j - 1) / 2) := by
  have hi : (j - 1) / 2 < j := by omega
  refine ⟨fun k k0 kn hk => ?_, fun i0 k k0 kn hk => ?_⟩
  · unfold swf
    by_cases e : k = j
    · subst e; rw [if_pos rfl, if_neg (by omega), if_pos rfl]; exact hl
    · by_cases e2 : (k - 1) / 2 = j
      · rw [e2, if_neg (by omega), if_pos rfl, if_neg hk, if_neg e]; exact h.2 h0 k k0 kn e2
      · by_cases e3 : (k - 1) / 2 = (j - 1) / 2
        · rw [e3, if_pos rfl, if_neg hk, if_neg e]
          exact tr hl (e3 ▸ h.1 k k0 kn e)
        · rw [if_neg e3, if_neg e2, if_neg hk, if_neg e]; exact h.1 k k0 kn e
  · unfold swf
    have hp := h.1 ((j - 1) / 2) i0 (by omega) (by omega)
    rw [if_neg (by omega), if_neg (by omega)]
    by_cases e : k = j
    · subst e; rw [if_neg (by omega), if_pos rfl]; exact hp
    · rw [if_neg (by omega), if_neg e]
      exact tr hp (hk ▸ h.1 k k0 kn e)
theorem down_of_ok {f : Nat → α} {n : Nat} (h : Ok le f n) (i : Nat) (f' : Nat → α) (hf : ∀ k, k ≠ i → f' k = f k) (tr : ∀ {a b c}, le a b → le b c → le a c) : Down le f' n i i := by
  refine ⟨fun k k0 kn hk hk2 => ?_, fun i0 k k0 kn hk => ?_, Nat.le_refl _⟩
  · rw [hf _ hk, hf k (by omega)]; exact h k k0 kn
  · rw [hf _ (by omega), hf k (by omega)]
    have h1 := h k k0 kn
    rw [hk] at h1
    by_cases e : i < n
    · exact tr (h i i0 e) h1
    · omega
/-- the loop of 'down' has ended without a move -/
theorem down_stop {f : Nat → α} {n i0 : Nat} (h : Down le f n i0 i0) (hl : ∀ k, 0 < k → k < n → (k - 1) / 2 = i0 → le (f i0) (f k)) : Up le f n i0 := by
  refine ⟨fun k k0 kn hk => ?_, fun h0 k k0 kn hk => h.2.1 h0 k k0 kn hk⟩
  by_cases e : (k - 1) / 2 = i0
  · rw [e]; exact hl k k0 kn e
  · exact h.1 k k0 kn e (fun x => hk x.1)
/-- .. or behind one -/
theorem down_moved {f : Nat → α} {n i i0 : Nat} (h : Down le f n i i0) (hi : i0 < i) (hl : ∀ k, 0 < k → k < n → (k - 1) / 2 = i → le (f i) (f k)) : Ok le f n := fun k k0 kn => by
  by_cases e : (k - 1) / 2 = i
  · rw [e]; exact hl k k0 kn e
  · exact h.1 k k0 kn e (by omega)
theorem down_step {f : Nat → α} {n i i0 j : Nat} (h : Down le f n i i0) (hj : j < n) (hji : j = 2 * i + 1 ∨ j = 2 * i + 2)
    (hmin : ∀ k, 0 < k → k < n → (k - 1) / 2 = i → le (f j) (f k)) (hl : le (f j) (f i)) : Down le (swf f i j) n j i0 := by
  have hp : (j - 1) / 2 = i := by omega
  have hij : i < j := by omega
  have h3 := h.2.2
  refine ⟨fun k k0 kn hk hk2 => ?_, fun j0 k k0 kn hk => ?_, by omega⟩
  · unfold swf
    by_cases e : (k - 1) / 2 = i
    · rw [e, if_pos rfl]
      by_cases e2 : k = j
      · subst e2; rw [if_neg (by omega), if_pos rfl]; exact hl
      · rw [if_neg (by omega), if_neg e2]; exact hmin k k0 kn e
    · rw [if_neg e, if_neg hk]
      by_cases e2 : k = i
      · subst e2; rw [if_pos rfl]; exact h.2.1 k0 j (by omega) hj hp
      · rw [if_neg e2, if_neg (by omega)]; exact h.1 k k0 kn e (by omega)
  · unfold swf
    rw [hp, if_pos rfl, if_neg (by omega), if_neg (by omega)]
    have := h.1 k k0 kn (by omega) (by omega)
    rwa [hk] at this
/-- the first one of a heap is the least -/
theorem ok_min {f : Nat → α} {n : Nat} (rf : ∀ a, le a a) (tr : ∀ {a b c}, le a b → le b c → le a c) (h : Ok le f n) : ∀ k, k < n → le (f 0) (f k) := by
  intro k
  induction k using Nat.strongRecOn with
  | _ k ih =>
    intro hk
    by_cases e : k = 0
    · subst e; exact rf _
    · exact tr (ih ((k - 1) / 2) (by omega) (by omega)) (h k (by omega) hk)
theorem ok_mono {f g : Nat → α} {n m : Nat} (h : Ok le f n) (hm : m ≤ n) (hf : ∀ k, k < m → g k = f k) : Ok le g m := fun k k0 km => by
  rw [hf _ (by omega), hf _ km]; exact h k k0 (by omega)
theorem up_of_ok {f g : Nat → α} {n : Nat} (h : Ok le f n) (hf : ∀ k, k < n → g k = f k) : Up le g (n + 1) n :=
  ⟨fun k k0 kn hk => by rw [hf _ (by omega), hf _ (by omega)]; exact h k k0 (by omega), fun _ k k0 kn hk => by omega⟩
theorem down_congr {f g : Nat → α} {n i i0 : Nat} (h : Down le f n i i0) (hi : i < n) (hf : ∀ k, k < n → g k = f k) : Down le g n i i0 := by
  refine ⟨fun k k0 kn hk hk2 => ?_, fun j0 k k0 kn hk => ?_, h.2.2⟩
  · rw [hf _ (by omega), hf _ kn]; exact h.1 k k0 kn hk hk2
  · rw [hf _ (by omega), hf _ kn]; exact h.2.1 j0 k k0 kn hk
end
end Go.Proofs.Ytmfjeeogeilgfaa.Hp
