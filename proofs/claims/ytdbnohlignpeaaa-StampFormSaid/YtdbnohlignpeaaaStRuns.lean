/- Runs: why they are none; which identifiers they have. Plain laws. -/
import Derived.Test.YtdbnohlignpeaaaStPlain
namespace Go.Proofs.Ytdbnohlignpeaaa.St

def Run.Ok (r : Run) : Prop := 1 ≤ r.c ∧ r.id.Is ∧ r.c - 1 ≤ 2147483647 - r.id.t
instance (r : Run) : Decidable r.Ok := by unfold Run.Ok; infer_instance
def Run.last (r : Run) : ID := if r.c < 1 then ID.zero else r.id.after (r.c - 1)
theorem last_ok {r : Run} (h : r.Ok) : r.last = ⟨r.id.t + r.c - 1, r.id.s⟩ := by
  unfold Run.Ok at h
  unfold Run.last ID.after
  rw [if_neg (by omega), if_pos ⟨h.2.1, by omega, h.2.2⟩, ID.ext_iff]
  exact ⟨by show r.id.t + (r.c - 1) = r.id.t + r.c - 1; omega, rfl⟩
theorem last_zero {r : Run} : r.last = ID.zero ↔ ¬ r.Ok := by
  constructor
  · intro h hok
    rw [last_ok hok] at h
    have h1 := congrArg ID.s h
    have h2 := hok.2.1
    unfold ID.Is at h2
    simp only [ID.zero] at h1
    omega
  · intro h
    unfold Run.last
    split
    · rfl
    · rename_i hc
      unfold ID.after
      rw [if_neg]
      rintro ⟨h1, h2, h3⟩
      exact h ⟨by omega, h1, h3⟩
/-- why a run may not stand behind these -/
def why (pre : List Run) (x : Run) : Int :=
  if ¬ x.Ok then 1 else if ∃ p, pre.getLast? = some p ∧ ¬ p.id.lt x.id then 9 else if ∃ p ∈ pre, p.id.s = x.id.s ∧ x.id.t ≤ p.id.t + p.c then 6 else 0
def Good (l : List Run) : Prop := ∀ (n : Nat) (x : Run), l[n]? = some x → why (l.take n) x = 0
def CheckIs (l : List Run) (e : Int) : Prop := (e = 0 ∧ Good l) ∨ ∃ (n : Nat) (x : Run), l[n]? = some x ∧ Good (l.take n) ∧ why (l.take n) x = e ∧ e ≠ 0
theorem good_take {l : List Run} {n : Nat} : Good (l.take n) ↔ ∀ (j : Nat) (x : Run), j < n → l[j]? = some x → why (l.take j) x = 0 := by
  unfold Good
  constructor
  · intro h j x hj hx
    have := h j x (by rw [List.getElem?_take, if_pos hj]; exact hx)
    rwa [List.take_take, Nat.min_eq_left (Nat.le_of_lt hj)] at this
  · intro h j x hx
    rw [List.getElem?_take] at hx
    split at hx
    · rename_i hj
      rw [List.take_take, Nat.min_eq_left (Nat.le_of_lt hj)]
      exact h j x hj hx
    · cases hx
theorem good_all {l : List Run} (h : Good l) (n : Nat) : Good (l.take n) := good_take.2 fun j x _ hx => h j x hx
theorem good_snoc {l : List Run} {x : Run} : Good (l ++ [x]) ↔ Good l ∧ why l x = 0 := by
  constructor
  · intro h
    constructor
    · have := good_all h l.length
      rwa [List.take_left] at this
    · have := h l.length x (by simp)
      rwa [List.take_left] at this
  · rintro ⟨h1, h2⟩ n y hy
    by_cases hn : n < l.length
    · rw [List.getElem?_append_left hn] at hy
      rw [List.take_append_of_le_length (by omega)]
      exact h1 n y hy
    · have hl := (List.getElem?_eq_some_iff.1 hy).1
      simp at hl
      obtain rfl : n = l.length := by omega
      simp at hy
      subst hy
      rw [List.take_left]
      exact h2
theorem CheckIs.unique {l : List Run} {e f : Int} (h : CheckIs l e) (h' : CheckIs l f) : e = f := by
  rcases h with ⟨rfl, h⟩ | ⟨n, x, h1, h2, h3, h4⟩ <;> rcases h' with ⟨rfl, h'⟩ | ⟨m, y, g1, g2, g3, g4⟩
  · rfl
  · exact absurd (g3.symm.trans (h m y g1)) g4
  · exact absurd (h3.symm.trans (h' n x h1)) h4
  · rcases Nat.lt_trichotomy n m with hl | rfl | hl
    · exact absurd (h3.symm.trans (good_take.1 g2 n x hl h1)) h4
    · rw [h1] at g1; cases g1; exact h3.symm.trans g3
    · exact absurd (g3.symm.trans (good_take.1 h2 m y hl g1)) g4
theorem CheckIs.range {l : List Run} {e : Int} (h : CheckIs l e) : e = 0 ∨ e = 1 ∨ e = 9 ∨ e = 6 := by
  rcases h with ⟨rfl, _⟩ | ⟨n, x, _, _, h, _⟩
  · exact .inl rfl
  · unfold why at h
    split at h
    · exact .inr (.inl h.symm)
    · split at h
      · exact .inr (.inr (.inl h.symm))
      · split at h
        · exact .inr (.inr (.inr h.symm))
        · exact .inl h.symm
theorem why_ok {pre : List Run} {x : Run} (h : why pre x = 0) : x.Ok ∧ (∀ p, pre.getLast? = some p → p.id.lt x.id) ∧ ∀ p ∈ pre, p.id.s = x.id.s → p.id.t + p.c < x.id.t := by
  unfold why at h
  split at h
  · cases h
  · split at h
    · cases h
    · split at h
      · cases h
      · rename_i h1 h2 h3
        refine ⟨by simpa using h1, fun p hp => ?_, fun p hp hs => ?_⟩
        · by_cases hl : p.id.lt x.id
          · exact hl
          · exact absurd ⟨p, hp, hl⟩ h2
        · by_cases hl : p.id.t + p.c < x.id.t
          · exact hl
          · exact absurd ⟨p, hp, hs, by omega⟩ h3
theorem snocR {P : List Run → Prop} (h0 : P []) (h1 : ∀ l x, P l → P (l ++ [x])) (l : List Run) : P l := by
  have : ∀ n (l : List Run), l.length = n → P l := fun n => by
    induction n with
    | zero => intro l hl; rw [List.length_eq_zero_iff.1 hl]; exact h0
    | succ n ih =>
      intro l hl
      have hne : l ≠ [] := by rintro rfl; simp at hl
      rw [← List.dropLast_concat_getLast hne]
      exact h1 _ _ (ih _ (by simp [hl]))
  exact this _ l rfl
theorem Good.ok {l : List Run} (h : Good l) : ∀ r ∈ l, r.Ok := fun r hr => by
  obtain ⟨n, hn⟩ := List.getElem?_of_mem hr
  exact (why_ok (h n r hn)).1
/-- the last one of a site -/
def lastOf (l : List Run) (s : Int) : Option Run := (l.filter fun r => decide (r.id.s = s)).getLast?
theorem lastOf_snoc (l : List Run) (x : Run) (s : Int) : lastOf (l ++ [x]) s = if x.id.s = s then some x else lastOf l s := by
  unfold lastOf
  rw [List.filter_append]
  by_cases h : x.id.s = s
  · rw [if_pos h]; simp [h]
  · rw [if_neg h]; simp [h]
theorem lastOf_mem {l : List Run} {s : Int} {r : Run} (h : lastOf l s = some r) : r ∈ l ∧ r.id.s = s := by
  have := List.mem_of_getLast? h
  rw [List.mem_filter] at this
  exact ⟨this.1, by simpa using this.2⟩
theorem lastOf_none {l : List Run} {s : Int} (h : lastOf l s = none) : ∀ p ∈ l, p.id.s ≠ s := by
  unfold lastOf at h
  rw [List.getLast?_eq_none_iff, List.filter_eq_nil_iff] at h
  intro p hp e
  exact h p hp (by simpa using e)
theorem lastOf_max {l : List Run} (hg : Good l) {s : Int} {r : Run} (h : lastOf l s = some r) : ∀ p ∈ l, p.id.s = s → p.id.t + p.c ≤ r.id.t + r.c := by
  induction l using snocR generalizing r with
  | h0 => intro p hp; cases hp
  | h1 l x ih =>
    obtain ⟨g1, g2⟩ := good_snoc.1 hg
    obtain ⟨w1, w2, w3⟩ := why_ok g2
    rw [lastOf_snoc] at h
    intro p hp hs
    split at h
    · rename_i hx
      cases h
      rcases List.mem_append.1 hp with hp | hp
      · have := w3 p hp (hs.trans hx.symm)
        have := w1.1
        omega
      · simp only [List.mem_cons, List.not_mem_nil, or_false] at hp
        subst hp; exact Int.le_refl _
    · rename_i hx
      rcases List.mem_append.1 hp with hp | hp
      · exact ih g1 h p hp hs
      · simp only [List.mem_cons, List.not_mem_nil, or_false] at hp
        subst hp; exact absurd hs hx
theorem form_iff {l : List Run} (hg : Good l) (x : Run) : (∃ p ∈ l, p.id.s = x.id.s ∧ x.id.t ≤ p.id.t + p.c) ↔ ∃ r, lastOf l x.id.s = some r ∧ x.id.t ≤ r.id.t + r.c := by
  constructor
  · rintro ⟨p, hp, hs, ht⟩
    cases h : lastOf l x.id.s with
    | none => exact absurd hs (lastOf_none h p hp)
    | some r => exact ⟨r, rfl, by have := lastOf_max hg h p hp hs; omega⟩
  · rintro ⟨r, hr, ht⟩
    exact ⟨r, (lastOf_mem hr).1, (lastOf_mem hr).2, ht⟩

/-- has a run this identifier? -/
def Run.has (r : Run) (x : ID) : Bool := decide (r.id.s = x.s ∧ r.id.t ≤ x.t ∧ x.t ≤ r.last.t)
def HasIs (l : List Run) (x : ID) (b : Bool) : Prop := b = true ↔ Good l ∧ ∃ r ∈ l, r.id.s = x.s ∧ r.id.t ≤ x.t ∧ x.t < r.id.t + r.c
theorem HasIs.unique {l : List Run} {x : ID} {b c : Bool} (h : HasIs l x b) (h' : HasIs l x c) : b = c := by
  rw [Bool.eq_iff_iff]; exact h.trans h'.symm
theorem has_ok {r : Run} (h : r.Ok) (x : ID) : r.has x = true ↔ r.id.s = x.s ∧ r.id.t ≤ x.t ∧ x.t < r.id.t + r.c := by
  unfold Run.has
  rw [decide_eq_true_iff, last_ok h]
  simp only
  omega
theorem hasIs_bad {l : List Run} {x : ID} (h : ¬ Good l) : HasIs l x false := ⟨fun e => (nomatch e), fun e => absurd e.1 h⟩
theorem hasIs_any {l : List Run} {x : ID} (h : Good l) : HasIs l x (l.any fun r => r.has x) := by
  unfold HasIs
  rw [List.any_eq_true]
  constructor
  · rintro ⟨r, hr, hh⟩
    exact ⟨h, r, hr, (has_ok (h.ok r hr) x).1 hh⟩
  · rintro ⟨_, r, hr, hh⟩
    exact ⟨r, hr, (has_ok (h.ok r hr) x).2 hh⟩
theorem CheckIs.good {l : List Run} {e : Int} (h : CheckIs l e) : Good l ↔ e = 0 := by
  constructor
  · intro hg; exact h.unique (.inl ⟨rfl, hg⟩)
  · rintro rfl
    rcases h with ⟨_, h⟩ | ⟨n, x, _, _, _, h⟩
    · exact h
    · exact absurd rfl h
end Go.Proofs.Ytdbnohlignpeaaa.St
