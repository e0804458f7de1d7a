/- A queue by what its operations are, without where they lie. -/
import Derived.Test.YtaaeomapbigfgaaQuIn
namespace Go.Proofs.Ytaaeomapbigfgaa
open Go.Proofs.Ytaaeomapbigfgaa.St
structure AQ where
  V : List Dot
  W : List Key
  O : List Key
deriving DecidableEq
def QS.abs (s : QS) : AQ := ⟨s.V, s.W.map key, s.O.map key⟩
def agr (W : List Key) : Nat → Nat
  | 0 => 0
  | n + 1 => match W[n]?, W[agr W n]? with
    | some e, some f => if 0 < farV e.1 f.1 e.2 f.2 then n else agr W n
    | _, _ => agr W n
def adrain : Nat → AQ → AQ
  | 0, s => s
  | n + 1, s => match s.W.findIdx? (fun k => decide (Ent.can s.V k.1 k.2)) with
    | none => s
    | some i => match s.W[i]? with
      | none => s
      | some e => adrain n ⟨addV s.V e.1, s.W.eraseIdx i, s.O ++ [e]⟩
def aoffer (hold : Int) (s : AQ) (e : Key) : Int × AQ :=
  if hasV s.V e.1 ∨ (s.W.any fun k => decide (k.1 = e.1)) = true then (3, s) else
  if Ent.can s.V e.1 e.2 then (1, adrain s.W.length ⟨addV s.V e.1, s.W, s.O ++ [e]⟩) else
  if (s.W.length : Int) + 1 ≤ hold then (2, ⟨s.V, s.W ++ [e], s.O⟩) else
  (match (s.W ++ [e])[agr (s.W ++ [e]) (s.W.length + 1)]? with
    | some f => (if f.1 = e.1 then 4 else 2)
    | none => 2, ⟨s.V, (s.W ++ [e]).eraseIdx (agr (s.W ++ [e]) (s.W.length + 1)), s.O⟩)
theorem grI_abs (W : List Ent) : ∀ n, grI W n = agr (W.map key) n
  | 0 => rfl
  | n + 1 => by
    unfold grI agr
    rw [grI_abs W n, List.getElem?_map, List.getElem?_map]
    cases h1 : W[n]? with
    | none => rfl
    | some e =>
      cases h2 : W[agr (W.map key) n]? with
      | none => rfl
      | some f => rfl
theorem drain_abs : ∀ (n : Nat) (s : QS), (drain n s).abs = adrain n s.abs
  | 0, _ => rfl
  | n + 1, s => by
    unfold drain adrain
    have hf : s.abs.W.findIdx? (fun k => decide (Ent.can s.abs.V k.1 k.2)) = s.W.findIdx? (Ent.canB s.V) := by
      show (s.W.map key).findIdx? _ = _
      rw [List.findIdx?_map]
      rfl
    rw [hf]
    cases h1 : s.W.findIdx? (Ent.canB s.V) with
    | none => rfl
    | some i =>
      have hg : s.abs.W[i]? = s.W[i]?.map key := List.getElem?_map
      cases h2 : s.W[i]? with
      | none => simp only [hg, h2]; rfl
      | some e =>
        simp only [hg, h2, Option.map_some]
        rw [drain_abs n (s.take i e)]
        congr 1
        show AQ.mk _ ((s.W.eraseIdx i).map key) ((s.O ++ [e]).map key) = AQ.mk _ ((s.W.map key).eraseIdx i) (s.O.map key ++ [key e])
        rw [map_erase, List.map_append]
        rfl
theorem has_abs (W : List Ent) (d : Dot) : hasDot W d = (W.map key).any fun k => decide (k.1 = d) := by
  unfold hasDot
  rw [List.any_map]
  rfl
theorem OfferIs.abs {hold a : Int} {s s' : QS} {e : Ent} (h : OfferIs hold s 0 e a s') : (a, s'.abs) = aoffer hold s.abs (key e) := by
  unfold aoffer
  have e0 : (s.abs.W.any fun k => decide (k.1 = (key e).1)) = hasDot s.W e.v.dot := (has_abs s.W e.v.dot).symm
  have e1 : s.abs.W.length = s.W.length := List.length_map _
  have e2 : s.abs.W ++ [key e] = (s.W ++ [e]).map key := by rw [List.map_append]; rfl
  rw [e0, e1, e2, ← grI_abs]
  rcases h with ⟨h, _⟩ | ⟨_, hhad, rfl, rfl⟩ | ⟨_, hnot, hc, rfl, rfl⟩ | ⟨_, hnot, hc, hr, rfl, rfl⟩ | ⟨_, hnot, hc, hr, f, hf, rfl, rfl⟩
  · exact absurd rfl h
  · rw [if_pos (show hasV s'.abs.V (key e).1 ∨ _ from hhad)]
  · rw [if_neg (show ¬ (hasV s.abs.V (key e).1 ∨ _) from hnot), if_pos (show Ent.can s.abs.V (key e).1 (key e).2 from hc), drain_abs]
    congr 2
    show AQ.mk _ _ ((s.O ++ [e]).map key) = _
    rw [List.map_append]
    rfl
  · rw [if_neg (show ¬ (hasV s.abs.V (key e).1 ∨ _) from hnot), if_neg (show ¬ Ent.can s.abs.V (key e).1 (key e).2 from hc), if_pos hr]
    congr 1
  · rw [if_neg (show ¬ (hasV s.abs.V (key e).1 ∨ _) from hnot), if_neg (show ¬ Ent.can s.abs.V (key e).1 (key e).2 from hc), if_neg (show ¬ ((s.W.length : Int) + 1 ≤ hold) by omega), List.getElem?_map, hf, map_erase]
    rfl
abbrev kn (a b : Int) (D : List Dot) : Key := (⟨a, b⟩, D)
theorem known1 : aoffer 2 ⟨[], [], []⟩ (kn 1 1 []) = (1, ⟨[⟨1, 1⟩], [], [kn 1 1 []]⟩) := by decide +kernel
theorem known2 : aoffer 2 ⟨[⟨1, 1⟩], [], [kn 1 1 []]⟩ (kn 1 3 [⟨1, 2⟩]) = (2, ⟨[⟨1, 1⟩], [kn 1 3 [⟨1, 2⟩]], [kn 1 1 []]⟩) := by decide +kernel
theorem known3 : aoffer 2 ⟨[⟨1, 1⟩], [kn 1 3 [⟨1, 2⟩]], [kn 1 1 []]⟩ (kn 2 1 [⟨1, 3⟩]) = (2, ⟨[⟨1, 1⟩], [kn 1 3 [⟨1, 2⟩], kn 2 1 [⟨1, 3⟩]], [kn 1 1 []]⟩) := by decide +kernel
theorem known4 : aoffer 2 ⟨[⟨1, 1⟩], [kn 1 3 [⟨1, 2⟩], kn 2 1 [⟨1, 3⟩]], [kn 1 1 []]⟩ (kn 2 2 [⟨1, 3⟩, ⟨2, 1⟩]) = (4, ⟨[⟨1, 1⟩], [kn 1 3 [⟨1, 2⟩], kn 2 1 [⟨1, 3⟩]], [kn 1 1 []]⟩) := by decide +kernel
theorem known5 : aoffer 2 ⟨[⟨1, 1⟩], [kn 1 3 [⟨1, 2⟩], kn 2 1 [⟨1, 3⟩]], [kn 1 1 []]⟩ (kn 3 1 [⟨1, 2⟩]) = (2, ⟨[⟨1, 1⟩], [kn 1 3 [⟨1, 2⟩], kn 3 1 [⟨1, 2⟩]], [kn 1 1 []]⟩) := by decide +kernel
theorem known6 : aoffer 2 ⟨[⟨1, 1⟩], [kn 1 3 [⟨1, 2⟩], kn 3 1 [⟨1, 2⟩]], [kn 1 1 []]⟩ (kn 1 2 [⟨1, 1⟩]) = (1, ⟨[⟨1, 3⟩, ⟨3, 1⟩], [], [kn 1 1 [], kn 1 2 [⟨1, 1⟩], kn 1 3 [⟨1, 2⟩], kn 3 1 [⟨1, 2⟩]]⟩) := by decide +kernel
theorem dsorted_eq {L M : List Dot} (hp : L.Perm M) (h1 : DSorted L) (h2 : DSorted M) : L = M := by
  refine List.Perm.eq_of_pairwise (le := fun a b : Dot => ¬ b.lt a) (fun a b _ _ h3 h4 => ?_) h1 h2 hp
  have h3' : ¬ b.id.lt a.id := h3
  have h4' : ¬ a.id.lt b.id := h4
  unfold ID.lt at h3' h4'
  unfold Dot.id at h3' h4'
  rw [Dot.ext_iff]
  simp only at h3' h4'
  omega
end Go.Proofs.Ytaaeomapbigfgaa

