/- stamp.Pack: what it does to any identifiers. -/
import Derived.Test.YtdbnohlignpeaaaStPackKey
import Derived.Maps.AppendAt
namespace Go.Proofs.Ytdbnohlignpeaaa.St
open Go.RowKit

/-- the map from the identifier that would follow a run to its place -/
def GrowsOk (kvs : List (ID × Value)) (out : List Run) : Prop := KeysOk kvs ∧ ∀ x, getK kvs x = (growAt out x).map fun k : Nat => Value.int .i64 (k : Int)
theorem growAt_next {out : List Run} (hn : (out.map Run.next).Nodup) {k : Nat} {r : Run} (hk : out[k]? = some r) : growAt out r.next = some k := growAt_of hn hk rfl
theorem growAt_iff {out : List Run} (hn : (out.map Run.next).Nodup) {x : ID} {k : Nat} : growAt out x = some k ↔ ∃ r, out[k]? = some r ∧ r.next = x :=
  ⟨growAt_some, fun ⟨_, h1, h2⟩ => growAt_of hn h1 h2⟩
theorem opt_ext {α : Type} {a b : Option α} (h : ∀ k, a = some k ↔ b = some k) : a = b := by
  cases a with
  | none => cases b with
    | none => rfl
    | some y => exact absurd ((h y).2 rfl) (by simp)
  | some x => exact ((h x).1 rfl).symm
theorem modify_get {out : List Run} {k i : Nat} {r : Run} (hk : out[k]? = some r) : (out.modify k Run.up)[i]? = if k = i then some r.up else out[i]? := by
  rw [List.getElem?_modify]
  by_cases h : k = i
  · subst h; simp [hk]
  · simp [h]
/-- a run that grows -/
theorem GrowsOk.grow {kvs : List (ID × Value)} {out : List Run} {P Q : ID → Prop} {x : ID} {k : Nat} (h : GrowsOk kvs out) (ho : PackOk out P) (ho2 : PackOk (packStep out x) Q) (hg : growAt out x = some k) :
    GrowsOk (putK (delK kvs x) ⟨x.t + 1, x.s⟩ (.int .i64 (k : Int))) (packStep out x) := by
  obtain ⟨h1, h2⟩ := h
  refine ⟨(h1.del x).put _ _, fun y => ?_⟩
  rw [getK_put, getK_del h1, h2]
  have e : packStep out x = out.modify k Run.up := by unfold packStep; rw [hg]
  obtain ⟨r, hk, hr⟩ := growAt_some hg
  have hn2 := ho2.nodup
  rw [e] at hn2 ⊢
  have hup : r.up.next = ⟨x.t + 1, x.s⟩ := by
    have e1 := congrArg ID.t hr
    have e2 := congrArg ID.s hr
    simp only [Run.next] at e1 e2
    rw [ID.ext_iff]
    simp only [Run.next, Run.up]
    exact ⟨by omega, e2⟩
  have hk2 : (out.modify k Run.up)[k]? = some r.up := by rw [modify_get hk, if_pos rfl]
  by_cases hy : (⟨x.t + 1, x.s⟩ : ID) = y
  · rw [if_pos hy, growAt_of hn2 hk2 (hup.trans hy)]; rfl
  · rw [if_neg hy]
    have key : growAt (out.modify k Run.up) y = if x = y then none else growAt out y := by
      refine opt_ext fun m => ?_
      rw [growAt_iff hn2]
      by_cases hxy : x = y
      · rw [if_pos hxy]
        constructor
        · rintro ⟨q, hq, hqn⟩
          rw [modify_get hk] at hq
          split at hq
          · cases hq; exact absurd (hup.symm.trans hqn) hy
          · rename_i hkm
            have h3 : growAt out x = some m := growAt_of ho.nodup hq (hqn.trans hxy.symm)
            rw [hg] at h3
            exact absurd (Option.some.inj h3) hkm
        · intro h3; cases h3
      · rw [if_neg hxy, growAt_iff ho.nodup]
        constructor
        · rintro ⟨q, hq, hqn⟩
          rw [modify_get hk] at hq
          split at hq
          · cases hq; exact absurd (hup.symm.trans hqn) hy
          · exact ⟨q, hq, hqn⟩
        · rintro ⟨q, hq, hqn⟩
          refine ⟨q, ?_, hqn⟩
          rw [modify_get hk, if_neg]
          · exact hq
          · rintro rfl
            rw [hk] at hq
            cases hq
            exact hxy (hr.symm.trans hqn)
    rw [key]
    by_cases hxy : x = y
    · rw [if_pos hxy, if_pos hxy]; rfl
    · rw [if_neg hxy, if_neg hxy]
/-- a new run -/
theorem GrowsOk.new {kvs : List (ID × Value)} {out : List Run} {P Q : ID → Prop} {x : ID} (h : GrowsOk kvs out) (ho : PackOk out P) (ho2 : PackOk (packStep out x) Q) (hg : growAt out x = none) :
    GrowsOk (putK kvs ⟨x.t + 1, x.s⟩ (.int .i64 (out.length : Int))) (packStep out x) := by
  obtain ⟨h1, h2⟩ := h
  refine ⟨h1.put _ _, fun y => ?_⟩
  rw [getK_put, h2]
  have e : packStep out x = out ++ [⟨x, 1⟩] := by unfold packStep; rw [hg]
  have hn2 := ho2.nodup
  rw [e] at hn2 ⊢
  have hlast : (out ++ [⟨x, 1⟩])[out.length]? = some ⟨x, 1⟩ := by simp
  have hnext : Run.next ⟨x, 1⟩ = ⟨x.t + 1, x.s⟩ := rfl
  by_cases hy : (⟨x.t + 1, x.s⟩ : ID) = y
  · rw [if_pos hy, growAt_of hn2 hlast (hnext.trans hy)]; rfl
  · rw [if_neg hy]
    congr 1
    refine opt_ext fun m => ?_
    rw [growAt_iff hn2, growAt_iff ho.nodup]
    constructor
    · rintro ⟨q, hq, hqn⟩
      exact ⟨q, by rw [List.getElem?_append_left (List.getElem?_eq_some_iff.1 hq).1]; exact hq, hqn⟩
    · rintro ⟨q, hq, hqn⟩
      by_cases hm : m < out.length
      · rw [List.getElem?_append_left hm] at hq; exact ⟨q, hq, hqn⟩
      · have : m = out.length := by
          have := (List.getElem?_eq_some_iff.1 hq).1
          simp at this; omega
        subst this
        rw [hlast] at hq
        cases hq
        exact absurd (hnext.symm.trans hqn) hy
theorem packOk_take {S : List ID} (hS : Rising S) : ∀ n, n ≤ S.length → PackOk (packL (S.take n)) (fun y => y ∈ S.take n) := by
  intro n
  induction n with
  | zero => intro _; exact ⟨by simp [packL], by simp [packL], by simp [packL]⟩
  | succ n ih =>
    intro hn
    obtain ⟨x, hx⟩ := get_of_lt (show n < S.length by omega)
    have e : S.take (n + 1) = S.take n ++ [x] := by rw [List.take_add_one, hx]; rfl
    have e2 : packL (S.take (n + 1)) = packStep (packL (S.take n)) x := by rw [e]; simp [packL, List.foldl_append]
    rw [e2]
    refine packStep_ok (ih (by omega)) (fun y hy => ?_) (fun y hy => by rw [e]; exact List.mem_append_left _ hy) (by rw [e]; simp)
    rintro rfl
    rw [Rising, ← List.take_append_drop n S] at hS
    have h1 := (List.pairwise_append.1 hS).2.2 y hy y (by rw [List.drop_eq_getElem_cons (by omega)]; rw [List.getElem?_eq_getElem (by omega)] at hx; rw [Option.some.inj hx]; simp)
    exact ID.lt_irrefl _ h1
theorem packL_take_succ {S : List ID} {n : Nat} {x : ID} (hx : S[n]? = some x) : packL (S.take (n + 1)) = packStep (packL (S.take n)) x := by
  rw [List.take_add_one, hx]; simp [packL, List.foldl_append]
theorem packL_len (S : List ID) : (packL S).length ≤ S.length := by
  have : ∀ (l : List ID) (out : List Run), (l.foldl packStep out).length ≤ out.length + l.length := by
    intro l
    induction l with
    | nil => intro out; simp
    | cons x l ih =>
      intro out
      have h1 := ih (packStep out x)
      have h2 := packStep_len out x
      simp only [List.foldl_cons, List.length_cons]
      omega
  have h := this S []
  rw [List.length_nil, Nat.zero_add] at h
  exact h
theorem packL_ids (S : List ID) : ∀ r ∈ packL S, r.id ∈ S := by
  induction S using snoc_ind with
  | h0 => simp [packL]
  | h1 l x ih =>
    have e : packL (l ++ [x]) = packStep (packL l) x := by simp [packL, List.foldl_append]
    rw [e]
    unfold packStep
    cases hg : growAt (packL l) x with
    | none =>
      intro r hr
      rcases List.mem_append.1 hr with hr | hr
      · exact List.mem_append_left _ (ih r hr)
      · simp only [List.mem_cons, List.not_mem_nil, or_false] at hr
        subst hr
        exact List.mem_append_right _ (by simp)
    | some k =>
      obtain ⟨q, hk, hq⟩ := growAt_some hg
      intro r hr
      obtain ⟨i, hi⟩ := List.getElem?_of_mem hr
      have hi2 : ((packL l).modify k Run.up)[i]? = some r := hi
      rw [modify_get hk] at hi2
      split at hi2
      · cases hi2
        exact List.mem_append_left _ (ih q (List.mem_of_getElem? hk))
      · exact List.mem_append_left _ (ih r (List.mem_of_getElem? hi2))
end Go.Proofs.Ytdbnohlignpeaaa.St
