/- What Pack makes of a rising row: runs that Check takes, whose identifiers are the row's. Plain laws. -/
import Derived.Test.YtdbnohlignpeaaaStRefEach
namespace Go.Proofs.Ytdbnohlignpeaaa.St
structure PI (out : List Run) (S : List ID) : Prop where
  ok : ∀ r ∈ out, r.Ok
  asc : out.Pairwise fun p q => p.id.lt q.id ∧ ¬ (p.id.s = q.id.s ∧ q.id.t ≤ p.id.t + p.c)
  perm : (idsOf out).Perm S
theorem PI.good {out : List Run} {S : List ID} (h : PI out S) : Good out := by
  intro n x hx
  have key : ∀ p ∈ out.take n, p.id.lt x.id ∧ ¬ (p.id.s = x.id.s ∧ x.id.t ≤ p.id.t + p.c) := by
    intro p hp
    obtain ⟨k, hk, hpk⟩ := take_mem hp
    obtain ⟨hn, rfl⟩ := List.getElem?_eq_some_iff.1 hx
    obtain ⟨hk2, rfl⟩ := List.getElem?_eq_some_iff.1 hpk
    exact List.pairwise_iff_getElem.1 h.asc k n hk2 hn hk
  exact why_none (h.ok x (List.mem_of_getElem? hx)) (fun p hp => (key p (List.mem_of_getLast? hp)).1) (fun p hp => (key p hp).2)
theorem mem_idsR {r : Run} {n : Nat} (hn : (n : Int) < r.c) : (⟨r.id.t + n, r.id.s⟩ : ID) ∈ idsR r := by
  unfold idsR
  exact List.mem_map.2 ⟨n, List.mem_range.2 (by omega), rfl⟩
theorem id_mem {out : List Run} {r : Run} (hr : r ∈ out) (h : r.Ok) : r.id ∈ idsOf out := by
  refine List.mem_flatMap.2 ⟨r, hr, ?_⟩
  have := mem_idsR (r := r) (n := 0) (by have := h.1; omega)
  simpa using this
theorem fin_mem {out : List Run} {r : Run} (hr : r ∈ out) (h : r.Ok) : r.fin ∈ idsOf out := by
  refine List.mem_flatMap.2 ⟨r, hr, ?_⟩
  have h1 := h.1
  have := mem_idsR (r := r) (n := (r.c - 1).toNat) (by omega)
  rw [show r.id.t + ((r.c - 1).toNat : Int) = r.id.t + r.c - 1 by omega] at this
  exact this
theorem idsR_up {r : Run} (h : r.Ok) : idsR r.up = idsR r ++ [r.next] := by
  have h1 := h.1
  unfold idsR Run.up Run.next
  rw [show (r.c + 1).toNat = r.c.toNat + 1 by omega, List.range_succ, List.map_append]
  simp
  omega
theorem PI.step {out : List Run} {S : List ID} {x : ID} (h : PI out S) (hx : x.Is) (hlt : ∀ y ∈ S, y.lt x) : PI (packStep out x) (S ++ [x]) := by
  have hid : ∀ r ∈ out, r.id.lt x := fun r hr => hlt _ (h.perm.mem_iff.1 (id_mem hr (h.ok r hr)))
  have hfin : ∀ r ∈ out, r.fin.lt x := fun r hr => hlt _ (h.perm.mem_iff.1 (fin_mem hr (h.ok r hr)))
  unfold packStep
  cases hg : growAt out x with
  | none =>
    have hno := growAt_none hg
    refine ⟨fun r hr => ?_, ?_, ?_⟩
    · rcases List.mem_append.1 hr with hr | hr
      · exact h.ok r hr
      · rw [List.mem_singleton.1 hr]
        unfold ID.Is at hx
        unfold Run.Ok ID.Is
        exact ⟨by show (1 : Int) ≤ 1; omega, hx, by show (1 : Int) - 1 ≤ 2147483647 - x.t; omega⟩
    · refine List.pairwise_append.2 ⟨h.asc, List.pairwise_singleton _ _, fun p hp q hq => ?_⟩
      rw [List.mem_singleton.1 hq]
      refine ⟨hid p hp, fun ⟨e1, e2⟩ => ?_⟩
      have h1 := hfin p hp
      have h2 := hno p hp
      have e1 : p.id.s = x.s := e1
      have e2 : x.t ≤ p.id.t + p.c := e2
      unfold ID.lt Run.fin at h1
      apply h2
      unfold Run.next
      rw [ID.ext_iff]
      exact ⟨by show p.id.t + p.c = x.t; simp only at h1; omega, e1⟩
    · unfold idsOf
      rw [List.flatMap_append]
      refine List.Perm.append h.perm ?_
      simp [idsR]
  | some k =>
    obtain ⟨r, hk, hr⟩ := growAt_some hg
    have hrm := List.mem_of_getElem? hk
    have hok := h.ok r hrm
    have ht : r.id.t + r.c = x.t := congrArg ID.t hr
    have hs : r.id.s = x.s := by have := congrArg ID.s hr; exact this
    show PI (out.modify k Run.up) (S ++ [x])
    refine ⟨fun q hq => ?_, ?_, ?_⟩
    · obtain ⟨i, hi⟩ := List.mem_iff_getElem?.1 hq
      rw [List.getElem?_modify] at hi
      by_cases hik : k = i
      · subst hik
        rw [hk] at hi
        simp at hi
        subst hi
        unfold Run.Ok ID.Is Run.up at *
        exact ⟨by simp only; omega, hok.2.1, by simp only; omega⟩
      · simp only [hik, if_false] at hi
        exact h.ok q (List.mem_of_getElem? (by simpa using hi))
    · rw [List.pairwise_iff_getElem]
      intro i j hi hj hij
      rw [List.length_modify] at hi hj
      have hR := List.pairwise_iff_getElem.1 h.asc i j hi hj hij
      rw [List.getElem_modify, List.getElem_modify]
      by_cases hik : k = i
      · subst hik
        rw [if_pos rfl, if_neg (by omega)]
        have er : out[k] = r := by
          have := (List.getElem?_eq_some_iff.1 hk).2
          exact this
        rw [er] at hR ⊢
        refine ⟨hR.1, fun ⟨e1, e2⟩ => hR.2 ⟨e1, ?_⟩⟩
        have h2 := hid out[j] (List.getElem_mem _)
        have e1 : r.id.s = out[j].id.s := e1
        unfold ID.lt at h2
        have : out[j].id.t < x.t := by omega
        omega
      · rw [if_neg hik]
        by_cases hjk : k = j
        · subst hjk
          rw [if_pos rfl]
          exact hR
        · rw [if_neg hjk]
          exact hR
    · have hkl := (List.getElem?_eq_some_iff.1 hk).1
      have e1 : out = out.take k ++ r :: out.drop (k + 1) := by
        rw [← (List.getElem?_eq_some_iff.1 hk).2, ← List.drop_eq_getElem_cons hkl, List.take_append_drop]
      have e2 : out.modify k Run.up = out.take k ++ r.up :: out.drop (k + 1) := by
        rw [List.modify_eq_take_cons_drop hkl]
        rw [(List.getElem?_eq_some_iff.1 hk).2]
      have hp := h.perm
      rw [e2]
      rw [e1] at hp
      unfold idsOf at hp ⊢
      rw [List.flatMap_append, List.flatMap_cons] at hp ⊢
      rw [idsR_up hok, hr]
      refine List.Perm.trans ?_ (List.Perm.append_right [x] hp)
      simp only [List.append_assoc]
      refine List.Perm.append_left _ (List.Perm.append_left _ ?_)
      exact List.perm_append_comm
theorem PI.fold : ∀ (S T : List ID) (out : List Run), PI out T → (∀ x ∈ S, x.Is) → (T ++ S).Pairwise ID.lt → PI (S.foldl packStep out) (T ++ S)
  | [], T, out, h, _, _ => by simpa using h
  | x :: S, T, out, h, hi, hp => by
    have h1 := h.step (x := x) (hi x (List.mem_cons_self ..)) (fun y hy => (List.pairwise_append.1 hp).2.2 y hy x (List.mem_cons_self ..))
    have := PI.fold S (T ++ [x]) (packStep out x) h1 (fun y hy => hi y (List.mem_cons_of_mem _ hy)) (by rw [List.append_assoc]; exact hp)
    rw [List.append_assoc] at this
    exact this
theorem packL_is {S : List ID} (hi : ∀ x ∈ S, x.Is) (hp : S.Pairwise ID.lt) : PI (packL S) S := by
  have := PI.fold S [] [] ⟨fun r hr => (by cases hr), List.Pairwise.nil, List.Perm.nil⟩ hi (by simpa using hp)
  rw [List.nil_append] at this
  exact this
/-- two rows of the same members are one set -/
theorem SetOf.same {l m S T : List ID} (h : SetOf l S) (h' : SetOf m T) (e : ∀ x, x ∈ l ↔ x ∈ m) : S = T :=
  h.unique ⟨h'.1, fun x => (h'.2 x).trans (by rw [e x])⟩
/-- the set's own identifiers, in another order -/
theorem SetOf.again {l S T U : List ID} (h : SetOf l S) (hp : U.Perm S) (h' : SetOf U T) : T = S := by
  refine SetOf.unique h' ⟨h.1, fun x => ⟨fun hx => ⟨hp.mem_iff.2 hx, ((h.2 x).1 hx).2⟩, fun hx => hp.mem_iff.1 hx.1⟩⟩
theorem SetOf.nodup {l S : List ID} (h : SetOf l S) : S.Nodup := List.Pairwise.imp (fun hab e => by subst e; exact ID.lt_irrefl _ hab) h.1
theorem packL_of {l S : List ID} (h : SetOf l S) : PI (packL S) S := packL_is (fun x hx => ((h.2 x).1 hx).2) h.1
/-- Has at Pack's runs: what is one of them -/
theorem PI.has {out : List Run} {S : List ID} {x : ID} {b : Bool} (h : PI out S) (hb : HasIs out x b) : b = true ↔ x ∈ S := by
  unfold HasIs at hb
  rw [hb, ← h.perm.mem_iff]
  constructor
  · rintro ⟨_, r, hr, e1, e2, e3⟩
    refine List.mem_flatMap.2 ⟨r, hr, ?_⟩
    have := mem_idsR (r := r) (n := (x.t - r.id.t).toNat) (by omega)
    rw [show r.id.t + ((x.t - r.id.t).toNat : Int) = x.t by omega, e1] at this
    exact this
  · intro hx
    obtain ⟨r, hr, hxr⟩ := List.mem_flatMap.1 hx
    obtain ⟨n, hn, rfl⟩ := List.mem_map.1 hxr
    have := List.mem_range.1 hn
    exact ⟨h.good, r, hr, rfl, by show r.id.t ≤ r.id.t + (n : Int); omega, by show r.id.t + (n : Int) < r.id.t + r.c; omega⟩
end Go.Proofs.Ytdbnohlignpeaaa.St
