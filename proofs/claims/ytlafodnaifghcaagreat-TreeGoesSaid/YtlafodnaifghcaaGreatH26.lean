/- The document's Compare and After; stamp.last. Runs: why they are none; which identifiers they have. Plain laws. stamp.Check, walked. A rising row, and one more put in. Plain. hearsayref6.sorted. -/
import Derived.Test.YtlafodnaifghcaaGreatH6
import Derived.Test.YtlafodnaifghcaaGreatH1
import Derived.Test.YtlafodnaifghcaaGreatH25
import Derived.IntWalk
namespace Go.Proofs.YtlafodnaifghcaaGreat.St
open Go.RowKit

theorem rcompare_core (at_ as_ bt bs : Int) (w : World) : Calls Tryz.prog 117 #[.agg #[.int .i64 at_, .int .i64 as_], .agg #[.int .i64 bt, .int .i64 bs]] w fun e w' => e = .returned (.int .i64 (ID.cmp ⟨at_, as_⟩ ⟨bt, bs⟩)) ∧ Grew w w' := by
  have hg := Grew.alloc (Grew.alloc (Grew.refl w) (.cells #[.int .i64 at_, .int .i64 as_] 37)) (.cells #[.int .i64 bt, .int .i64 bs] 37)
  have hz : ∀ {v : Int}, ID.cmp ⟨at_, as_⟩ ⟨bt, bs⟩ = v → Hid (ID.cmp ⟨at_, as_⟩ ⟨bt, bs⟩ = v) := fun h => h
  have G := Lib.hid hg
  clear hg
  by_cases h1 : at_ < bt
  · rw [show ID.cmp ⟨at_, as_⟩ ⟨bt, bs⟩ = -1 by rw [cmp_eq, if_pos (.inl h1)]]
    have e1 : (at_ == bt) = false := by simp; omega
    go_enter Tryz.func117, Tryz.ntmps117
    go_wp2_with fail
    go_ret
    exact ⟨rfl, G.out⟩
  · by_cases h2 : bt < at_
    · rw [show ID.cmp ⟨at_, as_⟩ ⟨bt, bs⟩ = 1 by rw [cmp_eq, if_neg (by unfold ID.lt; simp only; omega), if_pos (.inl h2)]]
      have e1 : (at_ == bt) = false := by simp; omega
      go_enter Tryz.func117, Tryz.ntmps117
      go_wp2_with fail
      go_ret
      exact ⟨rfl, G.out⟩
    · obtain rfl : at_ = bt := by omega
      by_cases h3 : as_ < bs
      · rw [show ID.cmp ⟨at_, as_⟩ ⟨at_, bs⟩ = -1 by rw [cmp_eq, if_pos (.inr ⟨rfl, h3⟩)]]
        have e1 : (as_ == bs) = false := by simp; omega
        go_enter Tryz.func117, Tryz.ntmps117
        go_wp2_with fail
        go_ret
        exact ⟨rfl, G.out⟩
      · by_cases h4 : bs < as_
        · rw [show ID.cmp ⟨at_, as_⟩ ⟨at_, bs⟩ = 1 by rw [cmp_eq, if_neg (by unfold ID.lt; simp only; omega), if_pos (.inr ⟨rfl, h4⟩)]]
          have e1 : (as_ == bs) = false := by simp; omega
          go_enter Tryz.func117, Tryz.ntmps117
          go_wp2_with fail
          go_ret
          exact ⟨rfl, G.out⟩
        · obtain rfl : as_ = bs := by omega
          rw [show ID.cmp ⟨at_, as_⟩ ⟨at_, as_⟩ = 0 from cmp_zero.2 rfl]
          go_enter Tryz.func117, Tryz.ntmps117
          go_wp2_with fail
          go_ret
          exact ⟨rfl, G.out⟩
theorem rcompare_any (a b : ID) (w : World) : Calls Tryz.prog 117 #[idV a, idV b] w fun e w' => e = .returned (.int .i64 (a.cmp b)) ∧ Grew w w' := rcompare_core a.t a.s b.t b.s w
end Go.Proofs.YtlafodnaifghcaaGreat.St
namespace Go.Proofs.YtlafodnaifghcaaGreat.St

def Run.Ok (r : Run) : Prop := 1 ≤ r.c ∧ r.id.Is ∧ r.c - 1 ≤ 2147483647 - r.id.t
instance Run.decOk (r : Run) : Decidable r.Ok := by unfold Run.Ok; infer_instance
def Run.last (r : Run) : ID := if r.c < 1 then ID.zero else r.id.after (r.c - 1)
theorem last_ok {r : Run} (h : r.Ok) : r.last = ⟨r.id.t + r.c - 1, r.id.s⟩ := by
  unfold Run.Ok at h
  unfold Run.last ID.after
  rw [if_neg (by omega), if_pos ⟨h.2.1, by omega, h.2.2⟩, ID.ext_iff]
  exact ⟨by show r.id.t + (r.c - 1) = r.id.t + r.c - 1; omega, rfl⟩
theorem last_zero {r : Run} : r.last = ID.zero ↔ ¬ r.Ok := by
  constructor
  · intro h hok
    rw [last_ok hok] at h
    have h1 := congrArg ID.s h
    have h2 := hok.2.1
    unfold ID.Is at h2
    simp only [ID.zero] at h1
    omega
  · intro h
    unfold Run.last
    split
    · rfl
    · rename_i hc
      unfold ID.after
      rw [if_neg]
      rintro ⟨h1, h2, h3⟩
      exact h ⟨by omega, h1, h3⟩
/-- why a run may not stand behind these -/
def why (pre : List Run) (x : Run) : Int :=
  if ¬ x.Ok then 1 else if ∃ p, pre.getLast? = some p ∧ ¬ p.id.lt x.id then 9 else if ∃ p ∈ pre, p.id.s = x.id.s ∧ x.id.t ≤ p.id.t + p.c then 6 else 0
def Good (l : List Run) : Prop := ∀ (n : Nat) (x : Run), l[n]? = some x → why (l.take n) x = 0
def CheckIs (l : List Run) (e : Int) : Prop := (e = 0 ∧ Good l) ∨ ∃ (n : Nat) (x : Run), l[n]? = some x ∧ Good (l.take n) ∧ why (l.take n) x = e ∧ e ≠ 0
theorem good_take {l : List Run} {n : Nat} : Good (l.take n) ↔ ∀ (j : Nat) (x : Run), j < n → l[j]? = some x → why (l.take j) x = 0 := by
  unfold Good
  constructor
  · intro h j x hj hx
    have := h j x (by rw [List.getElem?_take, if_pos hj]; exact hx)
    rwa [List.take_take, Nat.min_eq_left (Nat.le_of_lt hj)] at this
  · intro h j x hx
    rw [List.getElem?_take] at hx
    split at hx
    · rename_i hj
      rw [List.take_take, Nat.min_eq_left (Nat.le_of_lt hj)]
      exact h j x hj hx
    · cases hx
theorem good_all {l : List Run} (h : Good l) (n : Nat) : Good (l.take n) := good_take.2 fun j x _ hx => h j x hx
theorem good_snoc {l : List Run} {x : Run} : Good (l ++ [x]) ↔ Good l ∧ why l x = 0 := by
  constructor
  · intro h
    constructor
    · have := good_all h l.length
      rwa [List.take_left] at this
    · have := h l.length x (by simp)
      rwa [List.take_left] at this
  · rintro ⟨h1, h2⟩ n y hy
    by_cases hn : n < l.length
    · rw [List.getElem?_append_left hn] at hy
      rw [List.take_append_of_le_length (by omega)]
      exact h1 n y hy
    · have hl := (List.getElem?_eq_some_iff.1 hy).1
      simp at hl
      obtain rfl : n = l.length := by omega
      simp at hy
      subst hy
      rw [List.take_left]
      exact h2
theorem CheckIs.unique {l : List Run} {e f : Int} (h : CheckIs l e) (h' : CheckIs l f) : e = f := by
  rcases h with ⟨rfl, h⟩ | ⟨n, x, h1, h2, h3, h4⟩ <;> rcases h' with ⟨rfl, h'⟩ | ⟨m, y, g1, g2, g3, g4⟩
  · rfl
  · exact absurd (g3.symm.trans (h m y g1)) g4
  · exact absurd (h3.symm.trans (h' n x h1)) h4
  · rcases Nat.lt_trichotomy n m with hl | rfl | hl
    · exact absurd (h3.symm.trans (good_take.1 g2 n x hl h1)) h4
    · rw [h1] at g1; cases g1; exact h3.symm.trans g3
    · exact absurd (g3.symm.trans (good_take.1 h2 m y hl g1)) g4
theorem CheckIs.range {l : List Run} {e : Int} (h : CheckIs l e) : e = 0 ∨ e = 1 ∨ e = 9 ∨ e = 6 := by
  rcases h with ⟨rfl, _⟩ | ⟨n, x, _, _, h, _⟩
  · exact .inl rfl
  · unfold why at h
    split at h
    · exact .inr (.inl h.symm)
    · split at h
      · exact .inr (.inr (.inl h.symm))
      · split at h
        · exact .inr (.inr (.inr h.symm))
        · exact .inl h.symm
theorem why_ok {pre : List Run} {x : Run} (h : why pre x = 0) : x.Ok ∧ (∀ p, pre.getLast? = some p → p.id.lt x.id) ∧ ∀ p ∈ pre, p.id.s = x.id.s → p.id.t + p.c < x.id.t := by
  unfold why at h
  split at h
  · cases h
  · split at h
    · cases h
    · split at h
      · cases h
      · rename_i h1 h2 h3
        refine ⟨by simpa using h1, fun p hp => ?_, fun p hp hs => ?_⟩
        · by_cases hl : p.id.lt x.id
          · exact hl
          · exact absurd ⟨p, hp, hl⟩ h2
        · by_cases hl : p.id.t + p.c < x.id.t
          · exact hl
          · exact absurd ⟨p, hp, hs, by omega⟩ h3
theorem snocR {P : List Run → Prop} (h0 : P []) (h1 : ∀ l x, P l → P (l ++ [x])) (l : List Run) : P l := by
  have : ∀ n (l : List Run), l.length = n → P l := fun n => by
    induction n with
    | zero => intro l hl; rw [List.length_eq_zero_iff.1 hl]; exact h0
    | succ n ih =>
      intro l hl
      have hne : l ≠ [] := by rintro rfl; simp at hl
      rw [← List.dropLast_concat_getLast hne]
      exact h1 _ _ (ih _ (by simp [hl]))
  exact this _ l rfl
theorem Good.ok {l : List Run} (h : Good l) : ∀ r ∈ l, r.Ok := fun r hr => by
  obtain ⟨n, hn⟩ := List.getElem?_of_mem hr
  exact (why_ok (h n r hn)).1
/-- the last one of a site -/
def lastOf (l : List Run) (s : Int) : Option Run := (l.filter fun r => decide (r.id.s = s)).getLast?
theorem lastOf_snoc (l : List Run) (x : Run) (s : Int) : lastOf (l ++ [x]) s = if x.id.s = s then some x else lastOf l s := by
  unfold lastOf
  rw [List.filter_append]
  by_cases h : x.id.s = s
  · rw [if_pos h]; simp [h]
  · rw [if_neg h]; simp [h]
theorem lastOf_mem {l : List Run} {s : Int} {r : Run} (h : lastOf l s = some r) : r ∈ l ∧ r.id.s = s := by
  have := List.mem_of_getLast? h
  rw [List.mem_filter] at this
  exact ⟨this.1, by simpa using this.2⟩
theorem lastOf_none {l : List Run} {s : Int} (h : lastOf l s = none) : ∀ p ∈ l, p.id.s ≠ s := by
  unfold lastOf at h
  rw [List.getLast?_eq_none_iff, List.filter_eq_nil_iff] at h
  intro p hp e
  exact h p hp (by simpa using e)
theorem lastOf_max {l : List Run} (hg : Good l) {s : Int} {r : Run} (h : lastOf l s = some r) : ∀ p ∈ l, p.id.s = s → p.id.t + p.c ≤ r.id.t + r.c := by
  induction l using snocR generalizing r with
  | h0 => intro p hp; cases hp
  | h1 l x ih =>
    obtain ⟨g1, g2⟩ := good_snoc.1 hg
    obtain ⟨w1, w2, w3⟩ := why_ok g2
    rw [lastOf_snoc] at h
    intro p hp hs
    split at h
    · rename_i hx
      cases h
      rcases List.mem_append.1 hp with hp | hp
      · have := w3 p hp (hs.trans hx.symm)
        have := w1.1
        omega
      · simp only [List.mem_cons, List.not_mem_nil, or_false] at hp
        subst hp; exact Int.le_refl _
    · rename_i hx
      rcases List.mem_append.1 hp with hp | hp
      · exact ih g1 h p hp hs
      · simp only [List.mem_cons, List.not_mem_nil, or_false] at hp
        subst hp; exact absurd hs hx
theorem form_iff {l : List Run} (hg : Good l) (x : Run) : (∃ p ∈ l, p.id.s = x.id.s ∧ x.id.t ≤ p.id.t + p.c) ↔ ∃ r, lastOf l x.id.s = some r ∧ x.id.t ≤ r.id.t + r.c := by
  constructor
  · rintro ⟨p, hp, hs, ht⟩
    cases h : lastOf l x.id.s with
    | none => exact absurd hs (lastOf_none h p hp)
    | some r => exact ⟨r, rfl, by have := lastOf_max hg h p hp hs; omega⟩
  · rintro ⟨r, hr, ht⟩
    exact ⟨r, (lastOf_mem hr).1, (lastOf_mem hr).2, ht⟩

/-- has a run this identifier? -/
def Run.has (r : Run) (x : ID) : Bool := decide (r.id.s = x.s ∧ r.id.t ≤ x.t ∧ x.t ≤ r.last.t)
def HasIs (l : List Run) (x : ID) (b : Bool) : Prop := b = true ↔ Good l ∧ ∃ r ∈ l, r.id.s = x.s ∧ r.id.t ≤ x.t ∧ x.t < r.id.t + r.c
theorem HasIs.unique {l : List Run} {x : ID} {b c : Bool} (h : HasIs l x b) (h' : HasIs l x c) : b = c := by
  rw [Bool.eq_iff_iff]; exact h.trans h'.symm
theorem has_ok {r : Run} (h : r.Ok) (x : ID) : r.has x = true ↔ r.id.s = x.s ∧ r.id.t ≤ x.t ∧ x.t < r.id.t + r.c := by
  unfold Run.has
  rw [decide_eq_true_iff, last_ok h]
  simp only
  omega
theorem hasIs_bad {l : List Run} {x : ID} (h : ¬ Good l) : HasIs l x false := ⟨fun e => (nomatch e), fun e => absurd e.1 h⟩
theorem hasIs_any {l : List Run} {x : ID} (h : Good l) : HasIs l x (l.any fun r => r.has x) := by
  unfold HasIs
  rw [List.any_eq_true]
  constructor
  · rintro ⟨r, hr, hh⟩
    exact ⟨h, r, hr, (has_ok (h.ok r hr) x).1 hh⟩
  · rintro ⟨_, r, hr, hh⟩
    exact ⟨r, hr, (has_ok (h.ok r hr) x).2 hh⟩
theorem CheckIs.good {l : List Run} {e : Int} (h : CheckIs l e) : Good l ↔ e = 0 := by
  constructor
  · intro hg; exact h.unique (.inl ⟨rfl, hg⟩)
  · rintro rfl
    rcases h with ⟨_, h⟩ | ⟨n, x, _, _, _, h⟩
    · exact h
    · exact absurd rfl h
end Go.Proofs.YtlafodnaifghcaaGreat.St
namespace Go.Proofs.YtlafodnaifghcaaGreat.St
open Go.RowKit

/-- the map of each site's last time -/
def EndsOk (kvs : List (Int × Value)) (pre : List Run) : Prop := ∀ s, getK kvs s = (lastOf pre s).map fun r : Run => Value.int .i64 (r.id.t + r.c - 1)
theorem EndsOk.snoc {kvs : List (Int × Value)} {pre : List Run} (h : EndsOk kvs pre) (x : Run) : EndsOk (putK kvs x.id.s (.int .i64 (x.id.t + x.c - 1))) (pre ++ [x]) := by
  intro s
  rw [getK_put, lastOf_snoc, h]
  by_cases hs : x.id.s = s
  · rw [if_pos hs, if_pos hs]; rfl
  · rw [if_neg hs, if_neg hs]
theorem why_cases (pre : List Run) (x : Run) : (¬ x.Ok ∧ why pre x = 1) ∨ (x.Ok ∧ (∃ p, pre.getLast? = some p ∧ ¬ p.id.lt x.id) ∧ why pre x = 9) ∨
    (x.Ok ∧ (∀ p, pre.getLast? = some p → p.id.lt x.id) ∧ (∃ p ∈ pre, p.id.s = x.id.s ∧ x.id.t ≤ p.id.t + p.c) ∧ why pre x = 6) ∨ (x.Ok ∧ (∀ p, pre.getLast? = some p → p.id.lt x.id) ∧ (¬ ∃ p ∈ pre, p.id.s = x.id.s ∧ x.id.t ≤ p.id.t + p.c) ∧ why pre x = 0) := by
  unfold why
  by_cases h1 : x.Ok
  · rw [if_neg (by simpa using h1)]
    by_cases h2 : ∃ p, pre.getLast? = some p ∧ ¬ p.id.lt x.id
    · rw [if_pos h2]; exact .inr (.inl ⟨h1, h2, rfl⟩)
    · have h2' : ∀ p, pre.getLast? = some p → p.id.lt x.id := fun p hp => by
        by_cases hl : p.id.lt x.id
        · exact hl
        · exact absurd ⟨p, hp, hl⟩ h2
      rw [if_neg h2]
      by_cases h3 : ∃ p ∈ pre, p.id.s = x.id.s ∧ x.id.t ≤ p.id.t + p.c
      · rw [if_pos h3]; exact .inr (.inr (.inl ⟨h1, h2', h3, rfl⟩))
      · rw [if_neg h3]; exact .inr (.inr (.inr ⟨h1, h2', h3, rfl⟩))
  · rw [if_pos h1]; exact .inl ⟨h1, rfl⟩
theorem take_last {α : Type} {l : List α} {n : Nat} {p : α} (h : l[n]? = some p) : (l.take (n + 1)).getLast? = some p := by rw [List.take_add_one, h]; simp
theorem good_next {l : List Run} {n : Nat} {x : Run} (hx : l[n]? = some x) (hg : Good (l.take n)) (hw : why (l.take n) x = 0) : Good (l.take (n + 1)) := by
  rw [List.take_add_one, hx]; exact good_snoc.2 ⟨hg, hw⟩

theorem old_cell {w w' : World} (hk : Kept (fun _ => False) w w') {a : Addr} {v : Value} (h : w.cell? a = some v) : w'.cell? a = some v :=
  (World.cell?_of_block (a := a) (hk.block a.block (World.block_lt_of_cell? w a h) (fun h => h))).trans h
/-- where Check's loop stands -/
def ChRel (w : World) (mb : Nat) (L : List Run) (iv : Value) (wr : World) : Prop :=
  ∃ (n : Nat) (kvs : List (Int × Value)), iv = .int .i64 n ∧ n ≤ L.length ∧ Good (L.take n) ∧ MapK intK wr mb kvs ∧ EndsOk kvs (L.take n) ∧ Kept (fun _ => False) w wr
end Go.Proofs.YtlafodnaifghcaaGreat.St
namespace Go.Proofs.YtlafodnaifghcaaGreat.St

def ins (S : List ID) (k : Nat) (x : ID) : List ID := S.take k ++ x :: S.drop k
theorem ins_len {S : List ID} {k : Nat} (x : ID) (hk : k ≤ S.length) : (ins S k x).length = S.length + 1 := by
  unfold ins; rw [List.length_append, List.length_take, List.length_cons, List.length_drop]; omega
theorem ins_all (S : List ID) (x : ID) : ins S S.length x = S ++ [x] := by unfold ins; rw [List.take_length, List.drop_length]
theorem mem_ins {S : List ID} {k : Nat} {x y : ID} : y ∈ ins S k x ↔ y = x ∨ y ∈ S := by
  unfold ins
  constructor
  · intro h
    rcases List.mem_append.1 h with h | h
    · exact .inr (List.mem_of_mem_take h)
    · rcases List.mem_cons.1 h with rfl | h
      · exact .inl rfl
      · exact .inr (List.mem_of_mem_drop h)
  · rintro (rfl | h)
    · simp
    · rw [← List.take_append_drop k S] at h
      rcases List.mem_append.1 h with h | h
      · exact List.mem_append.2 (.inl h)
      · exact List.mem_append.2 (.inr (List.mem_cons_of_mem _ h))
theorem ins_get {S : List ID} {k : Nat} (x : ID) (hk : k ≤ S.length) : (ins S k x)[k]? = some x := by
  unfold ins
  rw [List.getElem?_append_right (by rw [List.length_take]; omega), List.length_take, Nat.min_eq_left hk, Nat.sub_self]
  rfl
theorem ins_low {S : List ID} {k j : Nat} (x : ID) (hk : k ≤ S.length) (hj : j < k) : (ins S k x)[j]? = S[j]? := by
  unfold ins
  rw [List.getElem?_append_left (by rw [List.length_take]; omega), List.getElem?_take, if_pos hj]
theorem ins_set {S : List ID} {k : Nat} (u x : ID) (hk : k ≤ S.length) : (ins S k u).set k x = ins S k x := by
  have hl : (S.take k).length = k := by rw [List.length_take]; omega
  unfold ins
  rw [List.set_append_right _ _ (by omega), hl, Nat.sub_self]
  rfl
/-- a step of the shifting -/
theorem ins_shift {S : List ID} {m : Nat} {p : ID} (u : ID) (hp : S[m]? = some p) : (ins S (m + 1) u).set (m + 1) p = ins S m p := by
  have hm : m < S.length := (List.getElem?_eq_some_iff.1 hp).1
  rw [ins_set u p hm]
  unfold ins
  have e : S.drop m = p :: S.drop (m + 1) := by
    rw [List.drop_eq_getElem_cons hm]
    rw [List.getElem?_eq_getElem hm] at hp
    rw [Option.some.inj hp]
  rw [List.take_add_one, hp, e]
  simp
theorem setOf_skip {L S : List ID} {n : Nat} {x : ID} (h : SetOf (L.take n) S) (hx : L[n]? = some x) (hi : isB x = false) : SetOf (L.take (n + 1)) S := by
  refine ⟨h.1, fun y => ?_⟩
  rw [h.2 y, List.take_add_one, hx]
  simp only [Option.toList, List.mem_append, List.mem_singleton]
  constructor
  · rintro ⟨h1, h2⟩; exact ⟨.inl h1, h2⟩
  · rintro ⟨h1 | rfl, h2⟩
    · exact ⟨h1, h2⟩
    · unfold isB at hi; exact absurd h2 (of_decide_eq_false hi)
theorem setOf_same {L S : List ID} {n : Nat} {x : ID} (h : SetOf (L.take n) S) (hx : L[n]? = some x) (hm : x ∈ S) : SetOf (L.take (n + 1)) S := by
  refine ⟨h.1, fun y => ?_⟩
  rw [h.2 y, List.take_add_one, hx]
  simp only [Option.toList, List.mem_append, List.mem_singleton]
  constructor
  · rintro ⟨h1, h2⟩; exact ⟨.inl h1, h2⟩
  · rintro ⟨h1 | rfl, h2⟩
    · exact ⟨h1, h2⟩
    · exact (h.2 y).1 hm
theorem setOf_ins {L S : List ID} {n k : Nat} {x : ID} (h : SetOf (L.take n) S) (hx : L[n]? = some x) (hi : isB x = true) (hlo : ∀ y ∈ S.take k, y.lt x) (hhi : ∀ (j : Nat) (y : ID), k ≤ j → S[j]? = some y → x.lt y) : SetOf (L.take (n + 1)) (ins S k x) := by
  have hd : ∀ y ∈ S.drop k, x.lt y := fun y hy => by
    obtain ⟨j, hj⟩ := List.getElem?_of_mem hy
    rw [List.getElem?_drop] at hj
    exact hhi (k + j) y (by omega) hj
  constructor
  · have hr := h.1
    unfold Rising at hr ⊢
    rw [← List.take_append_drop k S, List.pairwise_append] at hr
    unfold ins
    rw [List.pairwise_append, List.pairwise_cons]
    refine ⟨hr.1, ⟨hd, hr.2.1⟩, fun a ha b hb => ?_⟩
    rcases List.mem_cons.1 hb with rfl | hb
    · exact hlo a ha
    · exact hr.2.2 a ha b hb
  · intro y
    rw [mem_ins, h.2 y, List.take_add_one, hx]
    simp only [Option.toList, List.mem_append, List.mem_singleton]
    constructor
    · rintro (rfl | ⟨h1, h2⟩)
      · exact ⟨.inr rfl, of_decide_eq_true hi⟩
      · exact ⟨.inl h1, h2⟩
    · rintro ⟨h1 | rfl, h2⟩
      · exact .inr ⟨h1, h2⟩
      · exact .inl rfl
theorem rising_low {S : List ID} (h : Rising S) {m : Nat} {p x : ID} (hp : S[m]? = some p) (hx : p.lt x) : ∀ y ∈ S.take (m + 1), y.lt x := by
  intro y hy
  have hr : (S.take (m + 1)).Pairwise ID.lt := List.Pairwise.sublist (List.take_sublist _ _) h
  rw [List.take_add_one, hp] at hr hy
  simp only [Option.toList] at hr hy
  rw [List.pairwise_append] at hr
  rcases List.mem_append.1 hy with hy | hy
  · exact ID.lt_trans (hr.2.2 y hy p (by simp)) hx
  · rw [List.mem_singleton.1 hy]; exact hx
end Go.Proofs.YtlafodnaifghcaaGreat.St
namespace Go.Proofs.YtlafodnaifghcaaGreat.St
open Go.RowKit

theorem own_snoc {w : World} {base n : Nat} {t : TypeId} {v : Value} {S : List ID} {z : ID} (h : w.ownsRow base t 2 v (n + 1) (idE.flat S ++ idE.enc z)) :
    ∃ g cap, v = .slice (some ⟨g, 0, none⟩) (n + 1) cap ∧ base ≤ g ∧ OwnAt idE w t g cap (S ++ [z]) := by
  rw [← idE.flat_one, ← idE.flat_append] at h
  obtain ⟨_, ⟨_, e⟩ | ⟨g, cap, h1, h2, h3⟩⟩ := own_of (E := idE) h
  · simp at e
  · exact ⟨g, cap, h1, h2, h3⟩
theorem OwnAt.owns' {w : World} {t : TypeId} {g cap n base : Nat} {D : List ID} (h : OwnAt idE w t g cap D) (hb : base ≤ g) (hn : D.length = n) : w.ownsRow base t 2 (.slice (some ⟨g, 0, none⟩) n cap) D.length (idE.flat D) := by
  subst hn; exact h.owns hb
/-- where sorted's loop stands -/
def SoRel (w : World) (L : List ID) (lv iv : Value) (wr : World) : Prop :=
  ∃ (n : Nat) (S : List ID), iv = .int .i64 n ∧ n ≤ L.length ∧ SetOf (L.take n) S ∧ S.length ≤ n ∧ wr.ownsRow w.heap.size 37 2 lv S.length (idE.flat S) ∧ Kept (fun _ => False) w wr
set_option maxRecDepth 100000 in
set_option maxHeartbeats 4000000 in
theorem sorted_any {w : World} {v : Value} {L : List ID} (h : SlAt idE w v L) (hb : L.length ≤ 1000000) : Calls Tryz.prog 102 #[v] w fun e w' => ∃ v' S, e = .returned v' ∧ SetOf L S ∧ S.length ≤ L.length ∧ w'.ownsRow w.heap.size 37 2 v' S.length (idE.flat S) ∧ Kept (fun _ => False) w w' := by
  obtain ⟨a, c, rfl, _, _⟩ := h.sl
  have HS := Lib.hid h
  clear h
  go_enter Tryz.func102, Tryz.ntmps102
  go_wp2_with fail
  go_loopw [3, 4] (fun lv iv wr => SoRel w L lv iv wr) (fun _ iv _ => L.length - (intOf iv).toNat)
  case atStart => exact ⟨0, [], rfl, Nat.zero_le _, ⟨List.Pairwise.nil, fun x => by simp⟩, Nat.le_refl _, World.ownsRow_nil _ _ _ _, Kept.refl _ _⟩
  case round =>
    obtain ⟨n, S, rfl, hn, hset, hSn, hown, hkw⟩ := hrel
    have SE := Lib.hid hset
    clear hset
    by_cases hlt : n < L.length
    case neg =>
      have hge : L.length ≤ n := by omega
      have OW := Lib.hid hown
      clear hown
      go_wp2_with fail
      go_ret
      exact ⟨_, S, rfl, by have := SE.out; rwa [List.take_of_length_le hge] at this, by omega, OW.out, hkw⟩
    case pos =>
      obtain ⟨ra, rc, rfl⟩ := owns_sl hown
      obtain ⟨x, hx⟩ := get_of_lt hlt
      obtain ⟨g, o, c', hv, hglt, hc⟩ := SlAt.id HS.out (by omega)
      cases hv
      have C0 := Lib.hid (hc n x hx).1
      have C1 := Lib.hid (hc n x hx).2
      have c0 := old_cell hkw C0.out
      have c1 := old_cell hkw C1.out
      have X0 := Lib.hid hx
      clear hc hx
      have hn0 : (0 : Int) ≤ n := by omega
      have hnl : (n : Int) < L.length := by omega
      have hisd := isid_core x.t x.s wr
      cases hb : isB x
      · have IB := Lib.hid hb
        have OW := Lib.hid hown
        rw [show isB ⟨x.t, x.s⟩ = false from hb] at hisd
        clear hb hown
        go_wp2_with fail
        refine hisd.mono ?_
        rintro e w1 ⟨rfl, hg1⟩
        go_wp2_with fail
        go_roundw
        case rel => exact ⟨n + 1, S, by go_num, by omega, setOf_skip SE.out X0.out IB.out, by omega, owns_keep OW.out hg1.kept (fun _ _ h => h), hkw.trans hg1.kept (fun _ _ h => h)⟩
        case measure => simp [intOf] <;> omega
      · have IB := Lib.hid hb
        rw [show isB ⟨x.t, x.s⟩ = true from hb] at hisd
        clear hb
        have OW := Lib.hid hown
        have hSl : S.length ≤ 1000000 := by omega
        clear hown
        go_wp2_with fail
        refine hisd.mono ?_
        rintro e w1 ⟨rfl, hg1⟩
        have c0 := old_cell hg1.kept c0
        have c1 := old_cell hg1.kept c1
        have OW1 := Lib.hid (owns_keep OW.out hg1.kept (fun _ _ h => h))
        have K1 := Lib.hid (hkw.trans hg1.kept (fun _ _ h => h))
        clear hg1 hkw OW hisd
        go_wp2_with fail
        go_loopw [5] (fun kv w2 => ∃ k : Nat, kv = .int .i64 k ∧ k ≤ S.length ∧ (∀ (j : Nat) (y : ID), k ≤ j → S[j]? = some y → x.lt y) ∧ Kept (fun _ => False) w1 w2) (fun kv _ => (intOf kv).toNat)
        case atStart => exact ⟨S.length, rfl, Nat.le_refl _, (fun j y hj hy => by rw [List.getElem?_eq_none hj] at hy; cases hy), Kept.refl _ _⟩
        case round =>
          obtain ⟨k, rfl, hk, hhi, hk2⟩ := hrel
          have HHI := Lib.hid hhi
          clear hhi
          have OW2 := Lib.hid (owns_keep OW1.out hk2 (fun _ _ h => h))
          have K2 := Lib.hid (K1.out.trans hk2 (fun _ _ h => h))
          have HK2 := Lib.hid hk2
          have c0 := old_cell hk2 c0
          have c1 := old_cell hk2 c1
          have hkl : (k : Int) ≤ S.length := by omega
          clear hk2
          have hcs : (∃ m p, k = m + 1 ∧ S[m]? = some p ∧ (x.lt p ∨ p = x ∨ p.lt x)) ∨ k = 0 := by
            cases k with
            | zero => exact .inr rfl
            | succ m =>
              obtain ⟨p, hp⟩ := get_of_lt (show m < S.length by omega)
              exact .inl ⟨m, p, rfl, hp, (ID.lt_or x p).imp_right (Or.imp_left Eq.symm)⟩
          rcases hcs with ⟨m, p, rfl, hp, hcs⟩ | hk0
          obtain ⟨_, ⟨_, hno⟩ | ⟨g2, cap2, hv2, hgb2, hO⟩⟩ := own_of (E := idE) OW2.out
          · rw [hno] at hp; simp at hp
          cases hv2
          obtain ⟨q0, q1⟩ := OwnAt.id hO hp
          have P0 := Lib.hid hp
          have hm0 : (0 : Int) ≤ m := by omega
          have hml : (m : Int) < S.length := by omega
          have hw1 : IntKind.i64.wrap (m : Int) = (m : Int) := IntWalk.i64_in _ (by omega)
          have hd : decide ((0 : Int) < (m : Int) + 1) = true := decide_eq_true (by omega)
          clear hp hO
          rcases hcs with hpx | hpx | hpx
          · have hd2 : decide ((0 : Int) < p.cmp x) = true := decide_eq_true (cmp_gt.2 hpx)
            have HPX := Lib.hid hpx
            clear hpx
            go_wp2_with fail
            go_region_held3 (fun w' => w'.cell? ⟨g, o + n * 2, none⟩ = some (.int .i64 x.t) ∧ w'.cell? ⟨g, o + n * 2 + 1, none⟩ = some (.int .i64 x.s) ∧ w'.cell? ⟨g2, m * 2, none⟩ = some (.int .i64 p.t) ∧ w'.cell? ⟨g2, m * 2 + 1, none⟩ = some (.int .i64 p.s)) (first | exact ⟨c0, c1, q0, q1⟩) (first | (go_simp; go_at_call 117; refine (rcompare_any p x _).mono ?_; rintro e w2 ⟨rfl, hg2⟩; have c0 := old_cell hg2.kept c0; have c1 := old_cell hg2.kept c1; have q0 := old_cell hg2.kept q0; have q1 := old_cell hg2.kept q1))
            go_wp2_with fail
            go_roundw
            case rel =>
              refine ⟨m, by go_num, by omega, fun j y hj hy => ?_, HK2.out.drew.trans hg2.kept (fun _ _ h => h)⟩
              by_cases hjm : j = m
              · subst hjm; cases Option.some.inj (P0.out.symm.trans hy); exact HPX.out
              · exact HHI.out j y (by omega) hy
            case measure => simp [intOf] <;> omega
          · subst hpx
            have hd2 : decide ((0 : Int) < p.cmp p) = false := by rw [cmp_zero.2 rfl]; decide
            go_wp2_with fail
            go_region_held3 (fun w' => w'.cell? ⟨g, o + n * 2, none⟩ = some (.int .i64 p.t) ∧ w'.cell? ⟨g, o + n * 2 + 1, none⟩ = some (.int .i64 p.s) ∧ w'.cell? ⟨g2, m * 2, none⟩ = some (.int .i64 p.t) ∧ w'.cell? ⟨g2, m * 2 + 1, none⟩ = some (.int .i64 p.s)) (first | exact ⟨c0, c1, q0, q1⟩) (first | (go_simp; go_at_call 117; refine (rcompare_any p p _).mono ?_; rintro e w2 ⟨rfl, hg2⟩; have c0 := old_cell hg2.kept c0; have c1 := old_cell hg2.kept c1; have q0 := old_cell hg2.kept q0; have q1 := old_cell hg2.kept q1))
            go_wp2_with fail
            have hk3 := HK2.out.drew.trans hg2.kept (fun _ _ h => h)
            have OW3 := Lib.hid (owns_keep OW1.out hk3 (fun _ _ h => h))
            have K3 := Lib.hid (K1.out.trans hk3 (fun _ _ h => h))
            clear hk3 hg2
            go_quiet (fail)
            go_wp2_with fail
            go_roundw
            case rel => exact ⟨n + 1, S, by go_num, by omega, setOf_same SE.out X0.out (List.mem_of_getElem? P0.out), by omega, owns_keep OW3.out ((Kept.refl _ _).drewN _) (fun _ _ h => h), K3.out.drewN _⟩
            case measure => simp [intOf] <;> omega
          have HLO := Lib.hid (rising_low SE.out.1 P0.out hpx)
          have hd2 : decide ((0 : Int) < p.cmp x) = false := decide_eq_false (fun e => ID.lt_irrefl p (ID.lt_trans hpx (cmp_gt.1 e)))
          have hne : p ≠ x := fun e => ID.lt_irrefl p (e ▸ hpx)
          rcases (eq_cases p x).resolve_left hne with ⟨_, e1⟩ | ⟨_, e1, e2⟩
          focus
            clear hpx hne
            go_wp2_with fail
            go_region_held3 (fun w' => w'.cell? ⟨g, o + n * 2, none⟩ = some (.int .i64 x.t) ∧ w'.cell? ⟨g, o + n * 2 + 1, none⟩ = some (.int .i64 x.s) ∧ w'.cell? ⟨g2, m * 2, none⟩ = some (.int .i64 p.t) ∧ w'.cell? ⟨g2, m * 2 + 1, none⟩ = some (.int .i64 p.s)) (first | exact ⟨c0, c1, q0, q1⟩) (first | (go_simp; go_at_call 117; refine (rcompare_any p x _).mono ?_; rintro e w2 ⟨rfl, hg2⟩; have c0 := old_cell hg2.kept c0; have c1 := old_cell hg2.kept c1; have q0 := old_cell hg2.kept q0; have q1 := old_cell hg2.kept q1))
            go_wp2_with fail
            go_quiet (fail)
            have hk3 := (HK2.out.drew.trans hg2.kept (fun _ _ h => h)).drewN nq
            generalize w2.drewN nq = W at *
            have OW3 := Lib.hid (owns_keep OW1.out hk3 (fun _ _ h => h))
            have K3 := Lib.hid (K1.out.trans hk3 (fun _ _ h => h))
            clear hk3 hg2 HK2 K2 OW2 OW1 K1 c0 c1 q0 q1 hd hd2 hw1 hm0 hml P0
            rw [show (m : Int) + 1 = ((m + 1 : Nat) : Int) from rfl]
            generalize m + 1 = k at *
            generalize (some (⟨g2, 0, none⟩ : Addr)) = ra at *
          rotate_left
          focus
            clear hpx hne
            go_wp2_with fail
            go_region_held3 (fun w' => w'.cell? ⟨g, o + n * 2, none⟩ = some (.int .i64 x.t) ∧ w'.cell? ⟨g, o + n * 2 + 1, none⟩ = some (.int .i64 x.s) ∧ w'.cell? ⟨g2, m * 2, none⟩ = some (.int .i64 p.t) ∧ w'.cell? ⟨g2, m * 2 + 1, none⟩ = some (.int .i64 p.s)) (first | exact ⟨c0, c1, q0, q1⟩) (first | (go_simp; go_at_call 117; refine (rcompare_any p x _).mono ?_; rintro e w2 ⟨rfl, hg2⟩; have c0 := old_cell hg2.kept c0; have c1 := old_cell hg2.kept c1; have q0 := old_cell hg2.kept q0; have q1 := old_cell hg2.kept q1))
            go_wp2_with fail
            go_quiet (fail)
            have hk3 := (HK2.out.drew.trans hg2.kept (fun _ _ h => h)).drewN nq
            generalize w2.drewN nq = W at *
            have OW3 := Lib.hid (owns_keep OW1.out hk3 (fun _ _ h => h))
            have K3 := Lib.hid (K1.out.trans hk3 (fun _ _ h => h))
            clear hk3 hg2 HK2 K2 OW2 OW1 K1 c0 c1 q0 q1 hd hd2 hw1 hm0 hml P0
            rw [show (m : Int) + 1 = ((m + 1 : Nat) : Int) from rfl]
            generalize m + 1 = k at *
            generalize (some (⟨g2, 0, none⟩ : Addr)) = ra at *
          rotate_left
          focus
            have hd : decide ((0 : Int) < k) = false := decide_eq_false (by omega)
            have hd' : decide (0 < k) = false := decide_eq_false (by omega)
            have hlo : ∀ y ∈ S.take k, y.lt x := by rw [hk0]; simp
            have HLO := Lib.hid hlo
            clear hk0 hlo
            go_wp2_with fail
            go_quiet (fail)
            go_wp2_with fail
            have HQ := Lib.hid (HK2.out.drewN nq)
            generalize wr.drewN nq = W0 at *
            go_quiet (fail)
            have hk3 := HQ.out.drewN nq
            generalize W0.drewN nq = W at *
            have OW3 := Lib.hid (owns_keep OW1.out hk3 (fun _ _ h => h))
            have K3 := Lib.hid (K1.out.trans hk3 (fun _ _ h => h))
            clear hk3 HQ HK2 K2 OW2 OW1 K1 c0 c1 hd hd'
          all_goals
            have hglw : g < w.heap.size := hglt
            have hgb : ∀ b, (Value.slice ra S.length rc).ownBlock = some b → w.heap.size ≤ b := fun b e => by
              rcases OW3.out.2 with ⟨e2, _⟩ | ⟨g3, c2, cur, e2, h1, h2, _⟩
              · rw [e2] at e; cases e
              · rw [e2] at e; cases e; exact h1
            have HGB := Lib.hid hgb
            obtain ⟨i0, hi, hz0, hz1, hz2⟩ := info_parts info_id
            have I := Lib.hid hi
            have Z0 := Lib.hid hz0
            have Z1 := Lib.hid hz1
            have Z2 := Lib.hid hz2
            have hone : ∀ u ∈ [Value.int .i64 0, .int .i64 0], u.oneCell' = true := by simp [Value.oneCell']
            have H1 := Lib.hid hone
            have hnw : ∀ j u, [Value.int .i64 0, .int .i64 0][j]? = some u → (W.alloc (.cells #[.int .i64 0, .int .i64 0] 37)).cell? ((⟨W.heap.size, 0, none⟩ : Addr).add j) = some u := fun j u hu => by
              rw [Addr.add_lit, Nat.zero_add]
              have hb := Blk.new W 37 #[.int .i64 0, .int .i64 0]
              refine hb.cell' ?_
              rw [← Array.getElem?_toList]
              exact hu
            have NW := Lib.hid hnw
            have h63 : S.length + 1 ≤ maxLen := by unfold maxLen; omega
            have hby : (S.length + 1) * 16 ≤ 140737488355328 := by omega
            have hbase : w.heap.size ≤ W.heap.size := K3.out.size
            have hown2 := OW3.out.alloc (.cells #[.int .i64 0, .int .i64 0] 37)
            have OW4 := Lib.hid hown2
            have K4 := Lib.hid (K3.out.alloc (.cells #[.int .i64 0, .int .i64 0] 37))
            have hws : IntKind.i64.wrap (S.length : Int) = (S.length : Int) := IntWalk.i64_in _ (by omega)
            clear hi hz0 hz1 hz2 hone hnw hown2 hgb OW3 K3
            go_wp2_with (at_builtin; (refine wpList_append_own _ rfl (.tmp 52) (.tmp 54) 98 rfl w.heap.size 37 i0 (.agg #[.int .i64 0, .int .i64 0]) 2 16 Tryz.underlying98 I.out Z0.out Z1.out Z2.out rfl (by decide) _ _ _ rfl OW4.out ⟨W.heap.size, 0, none⟩ 1 1 [.int .i64 0, .int .i64 0] rfl rfl NW.out H1.out h63 hby (by simp; omega) ?_); (intro v' w5 hown5 hgrow0 _); have hgrow : World.grownBy _ w5 (Value.slice ra S.length rc).ownBlock := hgrow0; clear hgrow0; obtain ⟨g3, cap3, rfl, hgb3, hO5⟩ := own_snoc (z := ID.zero) hown5; have hkg : Kept (fun b => (Value.slice ra S.length rc).ownBlock = some b) _ w5 := Kept.grown (Kept.refl _ _) hgrow (fun k e _ => e); have K5 := Lib.hid (K4.out.trans hkg (fun i hi e => by have := HGB.out i e; omega)); have O5 := Lib.hid hO5; clear hkg hgrow hown5 hO5 K4 OW4 NW)
            go_loopw [6] (fun jv w6 => ∃ (j : Nat) (u : ID), jv = .int .i64 j ∧ k ≤ j ∧ j ≤ S.length ∧ OwnAt idE w6 37 g3 cap3 (ins S j u) ∧ Kept (· = g3) w5 w6) (fun jv _ => (intOf jv).toNat)
            case atStart => exact ⟨S.length, ID.zero, by go_num, hk, Nat.le_refl _, by rw [ins_all]; exact O5.out, Kept.refl _ _⟩
            case round =>
              obtain ⟨j, u, rfl, hkj, hjl, hO, hk6⟩ := hrel
              have hlen := ins_len u hjl
              by_cases hjk : k < j
              case pos =>
                obtain ⟨m2, rfl⟩ : ∃ m2, j = m2 + 1 := ⟨j - 1, by omega⟩
                obtain ⟨p2, hp2⟩ := get_of_lt (show m2 < S.length by omega)
                obtain ⟨d0, d1⟩ := OwnAt.id hO (i := m2) (x := p2) (by rw [ins_low u hjl (by omega)]; exact hp2)
                obtain ⟨e0, e1⟩ := OwnAt.id hO (i := m2 + 1) (x := u) (ins_get u hjl)
                have f0 := hO.frozen ((m2 + 1) * 2)
                have f1 := hO.frozen ((m2 + 1) * 2 + 1)
                have hm20 : (0 : Int) ≤ m2 := by omega
                have hm2l : (m2 : Int) < (S.length : Int) + 1 := by omega
                have hm3l : (m2 : Int) + 1 < (S.length : Int) + 1 := by omega
                have hjkI : (k : Int) < (m2 : Int) + 1 := by omega
                have hw2 : IntKind.i64.wrap (m2 : Int) = (m2 : Int) := IntWalk.i64_in _ (by omega)
                have HO := Lib.hid hO
                have P2 := Lib.hid hp2
                have LN := Lib.hid hlen
                clear hO hp2 hlen
                go_wp2_with fail
                go_roundw
                case rel => exact ⟨m2, p2, by go_num, by omega, by omega, by rw [← ins_shift u P2.out]; exact OwnAt.set2 HO.out (by have := LN.out; omega) rfl rfl, (hk6.setCell (fun _ => rfl) _).setCell (fun _ => rfl) _⟩
                case measure => simp [intOf] <;> omega
              case neg =>
                obtain rfl : k = j := by omega
                have K6 := Lib.hid (Kept.newer K5.out hk6 hgb3)
                have c0 := old_cell K6.out C0.out
                have c1 := old_cell K6.out C1.out
                obtain ⟨e0, e1⟩ := OwnAt.id hO (i := k) (x := u) (ins_get u hjl)
                have f0 := hO.frozen (k * 2)
                have f1 := hO.frozen (k * 2 + 1)
                have hkl1 : (k : Int) < (S.length : Int) + 1 := by omega
                have hk00 : (0 : Int) ≤ k := by omega
                have HO := Lib.hid hO
                have LN := Lib.hid hlen
                clear hO hlen
                go_wp2_with fail
                go_roundw
                case rel => exact ⟨n + 1, ins S k x, by go_num, by omega, setOf_ins SE.out X0.out IB.out HLO.out HHI.out, by rw [ins_len x hjl]; omega, by rw [← ins_set u x hjl]; exact OwnAt.owns' (OwnAt.set2 HO.out (by have := LN.out; omega) rfl rfl) hgb3 (by rw [List.length_set]; exact LN.out), Kept.newer K6.out (((Kept.refl (· = g3) _).setCell (fun _ => rfl) _).setCell (fun _ => rfl) _) hgb3⟩
                case measure => simp [intOf] <;> omega
end Go.Proofs.YtlafodnaifghcaaGreat.St
