/- A rising row, and one more put in. Plain. -/
import Derived.Test.YtdbnohlignpeaaaStPlain
namespace Go.Proofs.Ytdbnohlignpeaaa.St

def ins (S : List ID) (k : Nat) (x : ID) : List ID := S.take k ++ x :: S.drop k
theorem ins_len {S : List ID} {k : Nat} (x : ID) (hk : k ≤ S.length) : (ins S k x).length = S.length + 1 := by
  unfold ins; rw [List.length_append, List.length_take, List.length_cons, List.length_drop]; omega
theorem ins_all (S : List ID) (x : ID) : ins S S.length x = S ++ [x] := by unfold ins; rw [List.take_length, List.drop_length]
theorem mem_ins {S : List ID} {k : Nat} {x y : ID} : y ∈ ins S k x ↔ y = x ∨ y ∈ S := by
  unfold ins
  constructor
  · intro h
    rcases List.mem_append.1 h with h | h
    · exact .inr (List.mem_of_mem_take h)
    · rcases List.mem_cons.1 h with rfl | h
      · exact .inl rfl
      · exact .inr (List.mem_of_mem_drop h)
  · rintro (rfl | h)
    · simp
    · rw [← List.take_append_drop k S] at h
      rcases List.mem_append.1 h with h | h
      · exact List.mem_append.2 (.inl h)
      · exact List.mem_append.2 (.inr (List.mem_cons_of_mem _ h))
theorem ins_get {S : List ID} {k : Nat} (x : ID) (hk : k ≤ S.length) : (ins S k x)[k]? = some x := by
  unfold ins
  rw [List.getElem?_append_right (by rw [List.length_take]; omega), List.length_take, Nat.min_eq_left hk, Nat.sub_self]
  rfl
theorem ins_low {S : List ID} {k j : Nat} (x : ID) (hk : k ≤ S.length) (hj : j < k) : (ins S k x)[j]? = S[j]? := by
  unfold ins
  rw [List.getElem?_append_left (by rw [List.length_take]; omega), List.getElem?_take, if_pos hj]
theorem ins_set {S : List ID} {k : Nat} (u x : ID) (hk : k ≤ S.length) : (ins S k u).set k x = ins S k x := by
  have hl : (S.take k).length = k := by rw [List.length_take]; omega
  unfold ins
  rw [List.set_append_right _ _ (by omega), hl, Nat.sub_self]
  rfl
/-- a step of the shifting -/
theorem ins_shift {S : List ID} {m : Nat} {p : ID} (u : ID) (hp : S[m]? = some p) : (ins S (m + 1) u).set (m + 1) p = ins S m p := by
  have hm : m < S.length := (List.getElem?_eq_some_iff.1 hp).1
  rw [ins_set u p hm]
  unfold ins
  have e : S.drop m = p :: S.drop (m + 1) := by
    rw [List.drop_eq_getElem_cons hm]
    rw [List.getElem?_eq_getElem hm] at hp
    rw [Option.some.inj hp]
  rw [List.take_add_one, hp, e]
  simp
theorem setOf_skip {L S : List ID} {n : Nat} {x : ID} (h : SetOf (L.take n) S) (hx : L[n]? = some x) (hi : isB x = false) : SetOf (L.take (n + 1)) S := by
  refine ⟨h.1, fun y => ?_⟩
  rw [h.2 y, List.take_add_one, hx]
  simp only [Option.toList, List.mem_append, List.mem_singleton]
  constructor
  · rintro ⟨h1, h2⟩; exact ⟨.inl h1, h2⟩
  · rintro ⟨h1 | rfl, h2⟩
    · exact ⟨h1, h2⟩
    · unfold isB at hi; exact absurd h2 (of_decide_eq_false hi)
theorem setOf_same {L S : List ID} {n : Nat} {x : ID} (h : SetOf (L.take n) S) (hx : L[n]? = some x) (hm : x ∈ S) : SetOf (L.take (n + 1)) S := by
  refine ⟨h.1, fun y => ?_⟩
  rw [h.2 y, List.take_add_one, hx]
  simp only [Option.toList, List.mem_append, List.mem_singleton]
  constructor
  · rintro ⟨h1, h2⟩; exact ⟨.inl h1, h2⟩
  · rintro ⟨h1 | rfl, h2⟩
    · exact ⟨h1, h2⟩
    · exact (h.2 y).1 hm
theorem setOf_ins {L S : List ID} {n k : Nat} {x : ID} (h : SetOf (L.take n) S) (hx : L[n]? = some x) (hi : isB x = true) (hlo : ∀ y ∈ S.take k, y.lt x) (hhi : ∀ (j : Nat) (y : ID), k ≤ j → S[j]? = some y → x.lt y) : SetOf (L.take (n + 1)) (ins S k x) := by
  have hd : ∀ y ∈ S.drop k, x.lt y := fun y hy => by
    obtain ⟨j, hj⟩ := List.getElem?_of_mem hy
    rw [List.getElem?_drop] at hj
    exact hhi (k + j) y (by omega) hj
  constructor
  · have hr := h.1
    unfold Rising at hr ⊢
    rw [← List.take_append_drop k S, List.pairwise_append] at hr
    unfold ins
    rw [List.pairwise_append, List.pairwise_cons]
    refine ⟨hr.1, ⟨hd, hr.2.1⟩, fun a ha b hb => ?_⟩
    rcases List.mem_cons.1 hb with rfl | hb
    · exact hlo a ha
    · exact hr.2.2 a ha b hb
  · intro y
    rw [mem_ins, h.2 y, List.take_add_one, hx]
    simp only [Option.toList, List.mem_append, List.mem_singleton]
    constructor
    · rintro (rfl | ⟨h1, h2⟩)
      · exact ⟨.inr rfl, of_decide_eq_true hi⟩
      · exact ⟨.inl h1, h2⟩
    · rintro ⟨h1 | rfl, h2⟩
      · exact .inr ⟨h1, h2⟩
      · exact .inl rfl
theorem rising_low {S : List ID} (h : Rising S) {m : Nat} {p x : ID} (hp : S[m]? = some p) (hx : p.lt x) : ∀ y ∈ S.take (m + 1), y.lt x := by
  intro y hy
  have hr : (S.take (m + 1)).Pairwise ID.lt := List.Pairwise.sublist (List.take_sublist _ _) h
  rw [List.take_add_one, hp] at hr hy
  simp only [Option.toList] at hr hy
  rw [List.pairwise_append] at hr
  rcases List.mem_append.1 hy with hy | hy
  · exact ID.lt_trans (hr.2.2 y hy p (by simp)) hx
  · rw [List.mem_singleton.1 hy]; exact hx
end Go.Proofs.Ytdbnohlignpeaaa.St
