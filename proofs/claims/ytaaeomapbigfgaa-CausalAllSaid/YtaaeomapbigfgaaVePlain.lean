/- Vectors: plain laws, no program in sight. -/
import Derived.Test.YtaaeomapbigfgaaStPlain
namespace Go.Proofs.Ytaaeomapbigfgaa.St
@[ext] structure Dot where
  site : Int
  seq : Int
deriving DecidableEq, Inhabited
def isSite (n : Int) : Prop := 1 ≤ n ∧ n ≤ 16
instance (n : Int) : Decidable (isSite n) := by unfold isSite; infer_instance
def Dot.Ok (d : Dot) : Prop := 1 ≤ d.site ∧ d.site ≤ 16 ∧ 1 ≤ d.seq ∧ d.seq ≤ 2147483647
instance (d : Dot) : Decidable d.Ok := by unfold Dot.Ok; infer_instance
/-- one Dot more -/
def sayS (f : Nat → Int) (d : Dot) : Nat → Int := fun i => if d.Ok ∧ d.site = i then (if f i < d.seq then d.seq else f i) else f i
/-- what a list of Dots says: of each site the greatest number -/
def says (L : List Dot) : Nat → Int := L.foldl sayS fun _ => 0
theorem says_snoc (L : List Dot) (d : Dot) : says (L ++ [d]) = sayS (says L) d := by unfold says; rw [List.foldl_append]; rfl
theorem says_take {L : List Dot} {n : Nat} {d : Dot} (h : L[n]? = some d) : says (L.take (n + 1)) = sayS (says (L.take n)) d := by
  rw [← says_snoc]
  congr 1
  obtain ⟨h1, rfl⟩ := List.getElem?_eq_some_iff.1 h
  exact List.take_succ_eq_append_getElem h1
theorem foldl_bd : ∀ (L : List Dot) (f : Nat → Int) (i : Nat), 0 ≤ f i ∧ f i ≤ 2147483647 → 0 ≤ L.foldl sayS f i ∧ L.foldl sayS f i ≤ 2147483647
  | [], _, _, h => h
  | d :: r, f, i, h => by
    refine foldl_bd r (sayS f d) i ?_
    unfold sayS
    split
    · rename_i h1
      have := h1.1
      unfold Dot.Ok at this
      split <;> omega
    · exact h
theorem says_bd (L : List Dot) (i : Nat) : 0 ≤ says L i ∧ says L i ≤ 2147483647 := foldl_bd L _ i (by decide)
theorem foldl_out : ∀ (L : List Dot) (f : Nat → Int) (i : Nat), ¬ (1 ≤ i ∧ i ≤ 16) → L.foldl sayS f i = f i
  | [], _, _, _ => rfl
  | d :: r, f, i, h => by
    rw [List.foldl_cons, foldl_out r _ i h]
    unfold sayS
    rw [if_neg]
    intro ⟨h1, h2⟩
    unfold Dot.Ok at h1
    omega
theorem says_out (L : List Dot) (i : Nat) (h : ¬ (1 ≤ i ∧ i ≤ 16)) : says L i = 0 := foldl_out L _ i h
/-- the vector of a row -/
def vecOf (f : Nat → Int) (n : Nat) : List Dot := (List.range n).filterMap fun i => if 0 < f i then some ⟨i, f i⟩ else none
theorem vecOf_succ (f : Nat → Int) (n : Nat) : vecOf f (n + 1) = if 0 < f n then vecOf f n ++ [⟨n, f n⟩] else vecOf f n := by
  unfold vecOf
  rw [List.range_succ, List.filterMap_append]
  by_cases h : 0 < f n <;> simp [h]
theorem vecOf_len (f : Nat → Int) (n : Nat) : (vecOf f n).length ≤ n := by
  unfold vecOf
  have := List.length_filterMap_le (fun i : Nat => if 0 < f i then some (⟨i, f i⟩ : Dot) else none) (List.range n)
  simpa using this
def getV (L : List Dot) (s : Int) : Int := if isSite s then says L s.toNat else 0
def hasV (L : List Dot) (d : Dot) : Prop := 1 ≤ d.seq ∧ d.seq ≤ getV L d.site
instance (L : List Dot) (d : Dot) : Decidable (hasV L d) := by unfold hasV; infer_instance
def coversV (A B : List Dot) : Prop := ∀ i, i < 17 → says B i ≤ says A i
instance (A B : List Dot) : Decidable (coversV A B) := by unfold coversV; infer_instance
def sumTo (f : Nat → Int) : Nat → Int
  | 0 => 0
  | n + 1 => sumTo f n + f n
def sumV (L : List Dot) : Int := sumTo (says L) 17
/-- why a vector is none: 1 ErrArg, 6 ErrForm, 9 ErrOrder, 0 -/
def chkV : Int → List Dot → Int
  | _, [] => 0
  | last, d :: r => if ¬ isSite d.site then 1 else if d.seq < 1 ∨ 2147483647 < d.seq then 6 else if d.site ≤ last then 9 else chkV d.site r
def addV (L : List Dot) (d : Dot) : List Dot := vecOf (fun i => if (i : Int) = d.site then d.seq else says L i) 17
def whyAdd (L : List Dot) (d : Dot) : Int := if ¬ isSite d.site ∨ d.seq < 1 then 1 else if 2147483647 < d.seq then 17 else if d.seq ≠ getV L d.site + 1 then 9 else 0
def maxV (A B : List Dot) : Nat → Int := fun i => if says A i < says B i then says B i else says A i
end Go.Proofs.Ytaaeomapbigfgaa.St

