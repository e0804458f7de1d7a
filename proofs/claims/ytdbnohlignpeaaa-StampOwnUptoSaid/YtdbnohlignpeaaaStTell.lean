/- The laws' own steps on a Reader: take, taken, tells. -/
import Derived.Test.YtdbnohlignpeaaaStLaw
import Derived.Test.YtdbnohlignpeaaaStRefTake2
import Derived.Test.YtdbnohlignpeaaaStRefRead
import Derived.Deep.RegionHeld3
namespace Go.Proofs.Ytdbnohlignpeaaa.St
open Go.RowKit

/-! what a Reader gives: plain -/
def rdN (L : List UInt8) (e : Int) : Nat × List UInt8 × Int := if e ≠ 0 then (0, L, e) else ((takeN L 0 0).2.1, if (takeN L 0 0).1 = 0 then (takeN L 0 0).2.2 else L, (takeN L 0 0).1)
def rdT (L : List UInt8) (e : Int) : List UInt8 × List UInt8 × Int := if e ≠ 0 then ([], L, e) else ((takeT L).2.1, (takeT L).2.2, (takeT L).1)
theorem takeN_bad : ∀ (L : List UInt8) (i v : Nat), (takeN L i v).1 ≠ 0 → (takeN L i v).2.1 = 0
  | [], _, _, _ => by simp [takeN]
  | c :: r, i, v, h => by
    unfold takeN at h ⊢
    split
    · split
      · rfl
      · rename_i h1 h2
        rw [if_pos h1, if_neg h2] at h
        exact takeN_bad r _ _ h
    · split
      · rfl
      · rename_i h1 h2
        rw [if_neg h1, if_neg h2] at h
        exact absurd rfl h
theorem takeN_drop : ∀ (L : List UInt8) (i v : Nat), (takeN L i v).1 = 0 → ∃ k, k ≤ L.length ∧ (takeN L i v).2.2 = L.drop k
  | [], _, _, h => by simp [takeN] at h
  | c :: r, i, v, h => by
    unfold takeN at h ⊢
    split
    · split
      · rename_i h1 h2
        rw [if_pos h1, if_pos h2] at h
        cases h
      · rename_i h1 h2
        rw [if_pos h1, if_neg h2] at h
        obtain ⟨k, hk, e⟩ := takeN_drop r _ _ h
        exact ⟨k + 1, by simp; omega, by rw [e]; rfl⟩
    · split
      · rename_i h1 h2
        rw [if_neg h1, if_pos h2] at h
        cases h
      · exact ⟨1, by simp, rfl⟩
theorem rdN_err {L : List UInt8} {e : Int} (he : e ≠ 0) : rdN L e = (0, L, e) := by unfold rdN; rw [if_pos he]
theorem rdN_bad {L : List UInt8} (h : (takeN L 0 0).1 ≠ 0) : rdN L 0 = (0, L, (takeN L 0 0).1) := by unfold rdN; rw [if_neg (by simp), if_neg h, takeN_bad _ _ _ h]
theorem rdN_ok {L : List UInt8} (h : (takeN L 0 0).1 = 0) : rdN L 0 = ((takeN L 0 0).2.1, (takeN L 0 0).2.2, 0) := by unfold rdN; rw [if_neg (by simp), if_pos h, h]
theorem rtN_bad {L : List UInt8} {p : Nat} (h : (takeN (L.drop p) 0 0).1 ≠ 0) : rtN L p 0 = (0, p, (takeN (L.drop p) 0 0).1) := by unfold rtN; rw [if_neg (by simp), if_pos h]
theorem rtN_ok {L : List UInt8} {p : Nat} (h : (takeN (L.drop p) 0 0).1 = 0) : rtN L p 0 = ((takeN (L.drop p) 0 0).2.1, L.length - (takeN (L.drop p) 0 0).2.2.length, 0) := by unfold rtN; rw [if_neg (by simp), if_neg (by simpa using h)]
theorem rdN_rtN {B : List UInt8} {p : Nat} (hp : p ≤ B.length) (e : Int) : (rdN (B.drop p) e).1 = (rtN B p e).1 ∧ (rdN (B.drop p) e).2.1 = B.drop (rtN B p e).2.1 ∧ (rdN (B.drop p) e).2.2 = (rtN B p e).2.2 ∧ (rtN B p e).2.1 ≤ B.length := by
  refine ⟨?_, ?_, ?_, rtN_le e hp⟩ <;> by_cases he : e = 0
  all_goals first | (rw [rdN_err he, rtN_err he]; done) | subst he
  all_goals by_cases ht : (takeN (B.drop p) 0 0).1 = 0
  all_goals first | (rw [rdN_bad ht, rtN_bad ht]; done) | rw [rdN_ok ht, rtN_ok ht]
  obtain ⟨k, hk, hd⟩ := takeN_drop _ _ _ ht
  rw [List.length_drop] at hk
  simp only [hd, List.drop_drop, List.length_drop]
  rw [show B.length - (B.length - (p + k)) = p + k by omega]
theorem rdT_err {L : List UInt8} {e : Int} (he : e ≠ 0) : rdT L e = ([], L, e) := by unfold rdT; rw [if_pos he]
theorem rtT_err {L : List UInt8} {p : Nat} {e : Int} (he : (rtN L p e).2.2 ≠ 0) : rtT L p e = ([], p, (rtN L p e).2.2) := by unfold rtT; rw [if_pos he]
theorem rtT_short {L : List UInt8} {p : Nat} {e : Int} (he : (rtN L p e).2.2 = 0) (hs : L.length - (rtN L p e).2.1 < (rtN L p e).1) : rtT L p e = ([], p, 5) := by unfold rtT; rw [if_neg (by simpa using he), if_pos hs]
theorem rtT_ok {L : List UInt8} {p : Nat} {e : Int} (he : (rtN L p e).2.2 = 0) (hs : ¬ L.length - (rtN L p e).2.1 < (rtN L p e).1) : rtT L p e = ((L.drop (rtN L p e).2.1).take (rtN L p e).1, (rtN L p e).2.1 + (rtN L p e).1, 0) := by unfold rtT; rw [if_neg (by simpa using he), if_neg hs]
theorem rdT_bad {L : List UInt8} (h : (takeN L 0 0).1 ≠ 0) : rdT L 0 = ([], L, (takeN L 0 0).1) := by unfold rdT takeT; rw [if_neg (by simp), if_pos h]
theorem rdT_short {L : List UInt8} (h : (takeN L 0 0).1 = 0) (hs : (takeN L 0 0).2.2.length < (takeN L 0 0).2.1) : rdT L 0 = ([], L, 5) := by unfold rdT takeT; rw [if_neg (by simp), if_neg (by simpa using h), if_pos hs]
theorem rdT_ok {L : List UInt8} (h : (takeN L 0 0).1 = 0) (hs : ¬ (takeN L 0 0).2.2.length < (takeN L 0 0).2.1) : rdT L 0 = ((takeN L 0 0).2.2.take (takeN L 0 0).2.1, (takeN L 0 0).2.2.drop (takeN L 0 0).2.1, 0) := by unfold rdT takeT; rw [if_neg (by simp), if_neg (by simpa using h), if_neg hs]
theorem rdT_rtT {B : List UInt8} {p : Nat} (hp : p ≤ B.length) (e : Int) : (rdT (B.drop p) e).1 = (rtT B p e).1 ∧ (rdT (B.drop p) e).2.1 = B.drop (rtT B p e).2.1 ∧ (rdT (B.drop p) e).2.2 = (rtT B p e).2.2 ∧ (rtT B p e).2.1 ≤ B.length := by
  obtain ⟨h1, h2, h3, h4⟩ := rdN_rtN hp e
  by_cases he : e = 0
  · subst he
    by_cases ht : (takeN (B.drop p) 0 0).1 = 0
    · rw [rdN_ok ht] at h1 h2 h3
      simp only at h1 h2 h3
      by_cases hs : (takeN (B.drop p) 0 0).2.2.length < (takeN (B.drop p) 0 0).2.1
      · rw [rdT_short ht hs, rtT_short h3.symm (by rw [← h1]; rw [h2, List.length_drop] at hs; exact hs)]
        exact ⟨rfl, rfl, rfl, hp⟩
      · have hs' : ¬ B.length - (rtN B p 0).2.1 < (rtN B p 0).1 := by rw [← h1]; rw [h2, List.length_drop] at hs; exact hs
        rw [rdT_ok ht hs, rtT_ok h3.symm hs', h1, h2, List.drop_drop]
        exact ⟨rfl, rfl, rfl, by simp only; omega⟩
    · rw [rdT_bad ht, rtT_err (by rw [rtN_bad ht]; exact ht), rtN_bad ht]
      exact ⟨rfl, rfl, rfl, hp⟩
  · rw [rdT_err he, rtT_err (by rw [rtN_err he]; exact he), rtN_err he]
    exact ⟨rfl, rfl, rfl, hp⟩
def rdI (L : List UInt8) (e : Int) (t : Bool) : Item × List UInt8 × Int := if t then (⟨true, 0, strOf (rdT L e).1⟩, (rdT L e).2.1, (rdT L e).2.2) else (⟨false, (rdN L e).1, ⟨#[]⟩⟩, (rdN L e).2.1, (rdN L e).2.2)
def rtI (B : List UInt8) (p : Nat) (e : Int) (t : Bool) : Item × Nat × Int := if t then (⟨true, 0, strOf (rtT B p e).1⟩, (rtT B p e).2.1, (rtT B p e).2.2) else (⟨false, (rtN B p e).1, ⟨#[]⟩⟩, (rtN B p e).2.1, (rtN B p e).2.2)
theorem rdI_rtI {B : List UInt8} {p : Nat} (hp : p ≤ B.length) (e : Int) (t : Bool) : (rdI (B.drop p) e t).1 = (rtI B p e t).1 ∧ (rdI (B.drop p) e t).2.1 = B.drop (rtI B p e t).2.1 ∧ (rdI (B.drop p) e t).2.2 = (rtI B p e t).2.2 ∧ (rtI B p e t).2.1 ≤ B.length := by
  cases t with
  | true =>
    obtain ⟨h1, h2, h3, h4⟩ := rdT_rtT hp e
    exact ⟨by unfold rdI rtI; rw [if_pos rfl, if_pos rfl, h1], h2, h3, h4⟩
  | false =>
    obtain ⟨h1, h2, h3, h4⟩ := rdN_rtN hp e
    exact ⟨by unfold rdI rtI; rw [if_neg (by simp), if_neg (by simp), h1], h2, h3, h4⟩
theorem rnum_any {w : World} {A : Nat} {L : List UInt8} {e : Int} {F : Nat → Prop} (h : RdIs w A L e F) (hb : L.length ≤ 1000000000) :
    Calls Try.prog 54 #[.pointer (some ⟨A, 0, none⟩)] w fun e' w' => e' = .returned (.int .i64 ((rdN L e).1 : Int)) ∧ RdIs w' A (rdN L e).2.1 (rdN L e).2.2 F ∧ Kept (· = A) w w' := by
  unfold rdN
  by_cases he : e = 0
  · subst he
    rw [if_neg (by simp)]
    exact rnum_ok h hb
  · rw [if_pos he]
    exact (rnum_err h he).mono fun _ _ ⟨h1, h2⟩ => ⟨h1, h2 ▸ h, h2 ▸ Kept.refl _ _⟩
theorem rtext_any {w : World} {A : Nat} {L : List UInt8} {e : Int} {F : Nat → Prop} (h : RdIs w A L e F) (hb : L.length ≤ 1000000000) :
    Calls Try.prog 55 #[.pointer (some ⟨A, 0, none⟩)] w fun e' w' => e' = .returned (.string (strOf (rdT L e).1)) ∧ RdIs w' A (rdT L e).2.1 (rdT L e).2.2 F ∧ Kept (· = A) w w' := by
  unfold rdT
  by_cases he : e = 0
  · subst he
    rw [if_neg (by simp)]
    exact rtext_ok h hb
  · rw [if_pos he]
    exact (rtext_err h he).mono fun _ _ ⟨h1, h2⟩ => ⟨h1, h2 ▸ h, h2 ▸ Kept.refl _ _⟩
end Go.Proofs.Ytdbnohlignpeaaa.St
