/- The plain side of the alarm: timers in their order, rows of timers, exchanges. No program in sight. -/
import Derived.Test.YtmfjeeogeilgfaaHeap
namespace Go.Proofs.Ytmfjeeogeilgfaa.Al

/-- a timer -/
structure T where
  key : Int
  gap : Int
  due : Int
deriving Inhabited

def T.lt (a b : T) : Bool := decide (a.due < b.due) || (a.due == b.due && decide (a.key < b.key))
def T.le (a b : T) : Prop := a.due < b.due ∨ (a.due = b.due ∧ a.key ≤ b.key)
theorem T.lt_true {a b : T} : a.lt b = true ↔ a.due < b.due ∨ (a.due = b.due ∧ a.key < b.key) := by simp [T.lt]
theorem T.lt_false {a b : T} : a.lt b = false ↔ b.le a := by
  rw [← Bool.not_eq_true, T.lt_true]; unfold T.le; omega
theorem T.le_of_lt {a b : T} (h : a.lt b = true) : a.le b := by
  rw [T.lt_true] at h; unfold T.le; omega
theorem T.le_refl (a : T) : a.le a := .inr ⟨rfl, Int.le_refl _⟩
theorem T.le_trans {a b c : T} (h : a.le b) (k : b.le c) : a.le c := by unfold T.le at *; omega

/-- a row of timers, each with the block that it lies in -/
abbrev Row := List (Nat × T)
def fX (X : Row) : Nat → T := fun i => (X[i]?.map (·.2)).getD default
theorem fX_get {X : Row} {i : Nat} {x : Nat × T} (h : X[i]? = some x) : fX X i = x.2 := by simp [fX, h]
def swl (X : Row) (i k : Nat) : Row := match X[i]?, X[k]? with
  | some x, some y => (X.set i y).set k x
  | _, _ => X
theorem swl_eq {X : Row} {i k : Nat} {x y : Nat × T} (hi : X[i]? = some x) (hk : X[k]? = some y) : swl X i k = (X.set i y).set k x := by simp [swl, hi, hk]
theorem lt_of_get {α : Type} {X : List α} {i : Nat} {x : α} (h : X[i]? = some x) : i < X.length := (List.getElem?_eq_some_iff.1 h).1
theorem get_of_lt {α : Type} {X : List α} {i : Nat} (h : i < X.length) : ∃ x, X[i]? = some x := ⟨X[i], List.getElem?_eq_getElem h⟩
theorem swl_len (X : Row) (i k : Nat) : (swl X i k).length = X.length := by unfold swl; split <;> simp
theorem swl_get {X : Row} {i k : Nat} {x y : Nat × T} (hi : X[i]? = some x) (hk : X[k]? = some y) (j : Nat) :
    (swl X i k)[j]? = if j = k then some x else if j = i then some y else X[j]? := by
  have h1 := lt_of_get hi
  have h2 := lt_of_get hk
  rw [swl_eq hi hk, List.getElem?_set, List.getElem?_set]
  by_cases e : j = k
  · subst e; simp [h2]
  · by_cases e2 : j = i
    · subst e2; simp [e, Ne.symm e, h1]
    · simp [e, e2, Ne.symm e, Ne.symm e2]
theorem swl_perm (X : Row) (i k : Nat) : (swl X i k).Perm X := by
  unfold swl
  split
  · rename_i x y hx hy
    obtain ⟨h1, rfl⟩ := List.getElem?_eq_some_iff.1 hx
    obtain ⟨h2, rfl⟩ := List.getElem?_eq_some_iff.1 hy
    exact List.set_set_perm h1 h2
  · exact List.Perm.refl _
theorem fX_swl {X : Row} {i k : Nat} {x y : Nat × T} (hi : X[i]? = some x) (hk : X[k]? = some y) : fX (swl X i k) = Hp.swf (fX X) i k := by
  funext j
  simp only [fX, Hp.swf]
  rw [swl_get hi hk, hi, hk]
  by_cases e : j = k
  · subst e
    by_cases e2 : j = i
    · subst e2; rw [hi] at hk; simp_all
    · simp [e2]
  · by_cases e2 : j = i
    · subst e2; simp [e]
    · simp [e, e2]
/-- the row is a heap -/
def HeapOk (X : Row) : Prop := Hp.Ok T.le (fX X) X.length
end Go.Proofs.Ytmfjeeogeilgfaa.Al
