/- How a closed set is made, plainly. -/
import Derived.Test.YtaaeomapbigfgaaQuLaw
import Derived.Test.YtaaeomapbigfgaaVrMerge
namespace Go.Proofs.Ytaaeomapbigfgaa
open Go.Proofs.Ytaaeomapbigfgaa.St
theorem max_row (A B : List Dot) : (∀ i, 0 ≤ maxV A B i ∧ maxV A B i ≤ 2147483647) ∧ ∀ i, ¬ (1 ≤ i ∧ i ≤ 16) → maxV A B i = 0 := by
  refine ⟨fun i => ?_, fun i hi => ?_⟩
  · have := says_bd A i
    have := says_bd B i
    unfold maxV
    split <;> omega
  · unfold maxV
    rw [says_out A i hi, says_out B i hi]
    rfl
theorem says_merge (A B : List Dot) (u : Nat) : says (mergeV A B) u = if says A u < says B u then says B u else says A u := says_vec (max_row A B).1 (max_row A B).2 u
theorem says_merge0 (A : List Dot) (u : Nat) : says (mergeV A []) u = says A u := by
  rw [says_merge]
  have h0 : says [] u = 0 := rfl
  have := says_bd A u
  rw [h0, if_neg (by omega)]
theorem merge_len (A B : List Dot) : (mergeV A B).length ≤ 17 := vecOf_len _ _
theorem chk_merge (A B : List Dot) : chkV 0 (mergeV A B) = 0 := chk_vec (fun i => ((max_row A B).1 i).2) (max_row A B).2
theorem get_eq {A : List Dot} {t : Nat} (h1 : 1 ≤ t) (h2 : t ≤ 16) : getV A (t : Int) = says A t := by
  unfold getV
  rw [if_pos (by unfold isSite; omega)]
  rfl
/-- a vector that a site may know, of what there is -/
structure Knows (K : List Key) (t : Nat) (V : List Dot) : Prop where
  le : ∀ u, says V u ≤ cnt K u
  own : says V t = cnt K t
def nextD (K : List Key) (t : Nat) : Dot := ⟨t, cnt K t + 1⟩
section
variable {K : List Key} {t : Nat} {V : List Dot}
theorem nextD_ok (ht : 1 ≤ t ∧ t ≤ 16) (hK : K.length ≤ 1000) : (nextD K t).Ok := by
  have := cnt_bd t K
  unfold nextD Dot.Ok
  simp only
  omega
theorem Knows.why (h : Knows K t V) (ht : 1 ≤ t ∧ t ≤ 16) (hK : K.length ≤ 1000) : whyAdd V (nextD K t) = 0 := by
  have hok := nextD_ok (K := K) ht hK
  unfold whyAdd
  unfold Dot.Ok at hok
  rw [if_neg (fun h => by rcases h with h | h; exact h ⟨hok.1, hok.2.1⟩; omega), if_neg (by omega), if_neg]
  intro hn
  apply hn
  show cnt K t + 1 = getV V (t : Int) + 1
  rw [get_eq ht.1 ht.2, h.own]
theorem Knows.get (h : Knows K t V) (ht : 1 ≤ t ∧ t ≤ 16) : getV V (t : Int) = cnt K t := by rw [get_eq ht.1 ht.2, h.own]
theorem Knows.merge {A : List Dot} (h : Knows K t V) (hA : ∀ u, says A u ≤ cnt K u) : Knows K t (mergeV V A) := by
  refine ⟨fun u => ?_, ?_⟩
  · rw [says_merge]
    have := h.le u
    have := hA u
    split <;> omega
  · rw [says_merge]
    have := h.own
    have := hA t
    split <;> omega
theorem Cl.knew (h : Cl K) {i : Nat} {k : Key} (hk : K[i]? = some k) : ∀ u, says (addV k.2 k.1) u ≤ cnt K u := fun u => by
  obtain ⟨h1, h2, h3⟩ := h i k hk
  have hi := (List.getElem?_eq_some_iff.1 hk).1
  have hm := cnt_mono (K := K) (i := i + 1) u K.length (by omega)
  rw [cnt_take hk, List.take_length] at hm
  rw [says_add h1]
  have := h3 u
  have h1' := h1
  unfold Dot.Ok at h1'
  split
  · rename_i hu
    rw [if_pos hu.symm] at hm
    have : k.1.site.toNat = u := by omega
    rw [this] at h2
    omega
  · rename_i hu
    rw [if_neg (fun e => hu e.symm)] at hm
    omega
theorem Cl.more (h : Cl K) (hV : Knows K t V) (ht : 1 ≤ t ∧ t ≤ 16) (hK : K.length ≤ 1000) : Cl (K ++ [(nextD K t, mergeV V [])]) :=
  h.snoc (nextD_ok ht hK) (by show cnt K t + 1 = cnt K ((t : Int).toNat) + 1; rfl) (fun u => by show says (mergeV V []) u ≤ _; rw [says_merge0]; exact hV.le u)
theorem Knows.next (hV : Knows K t V) (ht : 1 ≤ t ∧ t ≤ 16) (hK : K.length ≤ 1000) (D : List Dot) : Knows (K ++ [(nextD K t, D)]) t (addV V (nextD K t)) := by
  have hok := nextD_ok (K := K) ht hK
  refine ⟨fun u => ?_, ?_⟩
  · rw [says_add hok, cnt_snoc]
    have := hV.le u
    show (if (u : Int) = (t : Int) then cnt K t + 1 else says V u) ≤ cnt K u + (if (t : Int) = (u : Int) then 1 else 0)
    by_cases hu : t = u
    · subst hu
      rw [if_pos rfl, if_pos rfl]
      exact Int.le_refl _
    · rw [if_neg (by omega), if_neg (by omega)]
      omega
  · rw [says_add hok, cnt_snoc]
    show (if (t : Int) = (t : Int) then cnt K t + 1 else says V t) = cnt K t + (if (t : Int) = (t : Int) then 1 else 0)
    rw [if_pos rfl, if_pos rfl]
theorem Knows.other (hV : Knows K t V) {t2 : Nat} (hne : t2 ≠ t) (D : List Dot) : Knows (K ++ [(nextD K t2, D)]) t V := by
  refine ⟨fun u => ?_, ?_⟩
  · rw [cnt_snoc]
    have := hV.le u
    split <;> omega
  · rw [cnt_snoc, hV.own]
    show _ = cnt K t + (if (t2 : Int) = (t : Int) then 1 else 0)
    rw [if_neg (by omega)]
    omega
end
end Go.Proofs.Ytaaeomapbigfgaa

