/- slices.SortFunc of identifiers, on a row of the call's own. slices.Compact of identifiers, on a row of the call's own. Keys of Pack's and Check's maps. stamp.Pack: what it does to any identifiers. stamp.Pack, walked. stamp.Check, walked. -/
import Derived.Shelf.SlSortCmp.NoneTotal
import Derived.Test.YtjohljmpcblpjaaGreatDoorL13
import Derived.Test.YtjohljmpcblpjaaGreatDoorL2
import Derived.Maps.AppendAt
import Derived.Test.YtjohljmpcblpjaaGreatDoorL15
import Derived.IntWalk
namespace Go.Proofs.YtjohljmpcblpjaaGreatDoor
open Go.RowKit
open Go.Sort (putRowK HoldsK flatK size_flatK get_flatK grow)
section
variable {α : Type} [Inhabited α] {E : Enc α} {w : World} {t : TypeId} {g cap : Nat} {D D' : List α}
theorem flatK_get {i j : Nat} {x : α} {u : Value} (hx : D[i]? = some x) (hu : (E.enc x)[j]? = some u) : i * E.k + j < (flatK E.enc E.k D.toArray).size ∧ (flatK E.enc E.k D.toArray)[i * E.k + j]! = u := by
  have hi : i < D.length := (List.getElem?_eq_some_iff.1 hx).1
  have hj : j < E.k := by rw [← E.len x]; exact (List.getElem?_eq_some_iff.1 hu).1
  have hlt : i * E.k + j < D.toArray.size * E.k := by
    have := Nat.mul_le_mul_right E.k (show i + 1 ≤ D.length by omega)
    rw [Nat.add_mul] at this
    simp only [List.size_toArray]
    omega
  refine ⟨by rw [size_flatK]; exact hlt, ?_⟩
  rw [get_flatK _ _ _ _ hlt]
  have e1 : (i * E.k + j) / E.k = i := by rw [Nat.mul_comm, Nat.mul_add_div E.pos, Nat.div_eq_of_lt hj, Nat.add_zero]
  have e2 : (i * E.k + j) % E.k = j := by rw [Nat.mul_comm, Nat.mul_add_mod, Nat.mod_eq_of_lt hj]
  have e3 : D.toArray[i]! = x := by
    rw [getElem!_pos D.toArray i (by simpa using hi)]
    have := (List.getElem?_eq_some_iff.1 hx).2
    simpa using this
  rw [e1, e2, e3]
  have hjl := (List.getElem?_eq_some_iff.1 hu)
  rw [getElem!_pos _ j hjl.1]
  exact hjl.2
theorem OwnAt.holdsK (h : OwnAt E w t g cap D) : HoldsK E.enc E.k w g 0 D.toArray := by
  intro m hm
  rw [size_flatK] at hm
  simp only [List.size_toArray] at hm
  have e : m = m / E.k * E.k + m % E.k := by have := Nat.div_add_mod m E.k; rw [Nat.mul_comm] at this; omega
  have hi : m / E.k < D.length := Nat.div_lt_of_lt_mul (by rw [Nat.mul_comm]; exact hm)
  have hj : m % E.k < E.k := Nat.mod_lt _ E.pos
  have hx := List.getElem?_eq_getElem hi
  have hu : (E.enc D[m / E.k])[m % E.k]? = some _ := List.getElem?_eq_getElem (by rw [E.len]; exact hj)
  have h1 := h.cell hx hu
  have h2 := (flatK_get hx hu).2
  rw [← e] at h1 h2
  rw [Nat.zero_add, h2]
  exact ⟨h1, h.frozen m⟩
theorem OwnAt.sorted (h : OwnAt E w t g cap D) (hl : D'.length = D.length) (n : Nat) (os : Array Obj) :
    OwnAt E (sortWorldK E.enc E.k w g 0 n D'.toArray os) t g cap D' ∧ Kept (· = g) w (sortWorldK E.enc E.k w g 0 n D'.toArray os) := by
  obtain ⟨cs, h1, h2, h3, h4, h5⟩ := h
  have hlt := h1.lt
  refine ⟨⟨Go.Sort.putCells id 0 (flatK E.enc E.k D'.toArray) cs, ?_, ?_, by omega, h4, ?_⟩, ⟨rfl, rfl, rfl, ?_, ?_⟩⟩
  · unfold Blk at h1 ⊢
    show (w.heap.modify g (Go.Sort.onCells (Go.Sort.putCells id 0 (flatK E.enc E.k D'.toArray))) ++ os)[g]? = _
    rw [Array.getElem?_append_left (by simpa using hlt), Array.getElem?_modify, if_pos rfl, h1]
    rfl
  · simp [Go.Sort.putCells, h2]
  · intro i x hx j u hu
    obtain ⟨g1, g2⟩ := flatK_get hx hu
    have hm : i * E.k + j < cs.size := by
      rw [size_flatK] at g1
      simp only [List.size_toArray] at g1
      have := Nat.mul_le_mul_right E.k h3
      rw [← hl] at this
      omega
    simp only [Go.Sort.putCells, Array.getElem?_mapIdx, Array.getElem?_eq_getElem hm, Option.map_some]
    rw [if_pos ⟨Nat.zero_le _, by omega⟩, Nat.sub_zero, g2]
    rfl
  · simp [sortWorldK, grow, putRowK, Go.Sort.putRow, Go.Sort.mapBlock, Go.Sort.ahead]
  · intro k hk hne
    have : ¬ g = k := fun e => hne e.symm
    show (w.heap.modify g (Go.Sort.onCells (Go.Sort.putCells id 0 (flatK E.enc E.k D'.toArray))) ++ os)[k]? = _
    rw [Array.getElem?_append_left (by simpa using hk), Array.getElem?_modify, if_neg this]
end
namespace St
open Go.Sort (SWO)
theorem lt_of (x y : ID) : Go.Proofs.ltOf ID.cmp x y = decide (x.lt y) := by
  unfold Go.Proofs.ltOf
  rw [decide_eq_decide]
  exact cmp_lt
theorem swo_id : SWO (Go.Proofs.ltOf ID.cmp) where
  irrefl x := by rw [lt_of]; simpa using ID.lt_irrefl x
  trans x y z h1 h2 := by rw [lt_of] at *; simp only [decide_eq_true_eq] at *; exact ID.lt_trans h1 h2
  ntrans x y z h1 h2 := by
    rw [lt_of] at *
    simp only [decide_eq_false_iff_not] at *
    unfold ID.lt at *
    omega
theorem part_id (x y : ID) (h1 : Go.Proofs.ltOf ID.cmp x y = false) (h2 : Go.Proofs.ltOf ID.cmp y x = false) : x = y := by
  rw [lt_of] at h1 h2
  simp only [decide_eq_false_iff_not] at h1 h2
  rcases x.lt_or y with h | h | h
  · exact absurd h h1
  · exact h
  · exact absurd h h2
/-- no later one is lower -/
def Sorted (l : List ID) : Prop := l.Pairwise fun a b => ¬ b.lt a
theorem merge_id (D : List ID) : (D.mergeSort fun x y => !Go.Proofs.ltOf ID.cmp y x).Perm D ∧ Sorted (D.mergeSort fun x y => !Go.Proofs.ltOf ID.cmp y x) := by
  refine ⟨List.mergeSort_perm .., ?_⟩
  have := List.pairwise_mergeSort (le := fun x y => !Go.Proofs.ltOf ID.cmp y x) (fun a b c h1 h2 => by
    simp only [Bool.not_eq_true'] at *
    exact swo_id.ntrans c b a h2 h1) (fun a b => by
    simp only [Bool.or_eq_true, Bool.not_eq_true', lt_of, decide_eq_false_iff_not]
    by_cases h : b.lt a
    · exact .inr fun h' => ID.lt_irrefl _ (ID.lt_trans h h')
    · exact .inl h) D
  refine this.imp fun {a b} h => ?_
  simpa [lt_of] using h
theorem cmpLays_id (g n : Nat) (w : World) : CmpLays Tryz.prog 155 #[] idE.enc 2 ID.cmp g 0 n w := fun _ _ _ _ x y => compare_any x y _
end St
end Go.Proofs.YtjohljmpcblpjaaGreatDoor
namespace Go.Proofs.YtjohljmpcblpjaaGreatDoor.St
open Go.RowKit

/-- without those that stand behind one alike -/
def ddStep (acc : List ID) (x : ID) : List ID := if acc.getLast? = some x then acc else acc ++ [x]
def dd (l : List ID) : List ID := l.foldl ddStep []
theorem dd_snoc (l : List ID) (x : ID) : dd (l ++ [x]) = ddStep (dd l) x := by simp [dd, List.foldl_append]
theorem dd_take (D : List ID) {j : Nat} {x : ID} (h : D[j]? = some x) : dd (D.take (j + 1)) = ddStep (dd (D.take j)) x := by rw [List.take_add_one, h]; exact dd_snoc _ _
theorem snoc_ind {P : List ID → Prop} (h0 : P []) (h1 : ∀ l x, P l → P (l ++ [x])) (l : List ID) : P l := by
  have : ∀ n (l : List ID), l.length = n → P l := fun n => by
    induction n with
    | zero => intro l hl; rw [List.length_eq_zero_iff.1 hl]; exact h0
    | succ n ih =>
      intro l hl
      have hne : l ≠ [] := by rintro rfl; simp at hl
      rw [← List.dropLast_concat_getLast hne]
      exact h1 _ _ (ih _ (by simp [hl]))
  exact this _ l rfl
theorem dd_last (l : List ID) : (dd l).getLast? = l.getLast? := by
  induction l using snoc_ind with
  | h0 => rfl
  | h1 l x ih =>
    rw [dd_snoc]
    unfold ddStep
    split
    · rename_i h; rw [h]; simp
    · simp
theorem dd_mem (l : List ID) (x : ID) : x ∈ dd l ↔ x ∈ l := by
  induction l using snoc_ind with
  | h0 => simp [dd]
  | h1 l y ih =>
    rw [dd_snoc]
    unfold ddStep
    split
    · rename_i h
      rw [ih, List.mem_append]
      constructor
      · exact .inl
      · rintro (h1 | h1)
        · exact h1
        · simp at h1; subst h1
          rw [dd_last] at h
          exact List.mem_of_getLast? h
    · rw [List.mem_append, List.mem_append, ih]
theorem dd_len (l : List ID) : (dd l).length ≤ l.length := by
  induction l using snoc_ind with
  | h0 => simp [dd]
  | h1 l y ih => rw [dd_snoc]; unfold ddStep; split <;> simp <;> omega
theorem dd_rising {l : List ID} (h : Sorted l) : Rising (dd l) := by
  induction l using snoc_ind with
  | h0 => exact List.Pairwise.nil
  | h1 l y ih =>
    have hs := List.pairwise_append.1 h
    have hr := ih hs.1
    rw [dd_snoc]
    unfold ddStep
    split
    · exact hr
    · rename_i hne
      refine List.pairwise_append.2 ⟨hr, by simp, fun a ha b hb => ?_⟩
      simp at hb
      subst hb
      have hle : ¬ b.lt a := hs.2.2 a ((dd_mem l a).1 ha) b (by simp)
      rcases a.lt_or b with h1 | h1 | h1
      · exact h1
      · subst h1
        exfalso
        -- a stands in dd l, and is not the last: the last is above it, yet not above the next
        cases hl : (dd l).getLast? with
        | none => rw [List.getLast?_eq_none_iff] at hl; rw [hl] at ha; cases ha
        | some z =>
          have hz : z ∈ dd l := List.mem_of_getLast? hl
          have hza : z ≠ a := fun e => hne (by rw [hl, e])
          have hzl : ¬ a.lt z := hs.2.2 z ((dd_mem l z).1 hz) a (by simp)
          have : ∀ {m : List ID}, Rising m → m.getLast? = some z → a ∈ m → a = z ∨ a.lt z := by
            intro m hm hmz ham
            obtain ⟨m', rfl⟩ := List.getLast?_eq_some_iff.1 hmz
            rcases List.mem_append.1 ham with h | h
            · exact .inr ((List.pairwise_append.1 hm).2.2 a h z (by simp))
            · exact .inl (by simpa using h)
          rcases this hr hl ha with e | e
          · exact hza e.symm
          · exact hzl e
      · exact absurd h1 hle
theorem last_take {D : List ID} {j : Nat} {y : ID} (h : D[j]? = some y) : (dd (D.take (j + 1))).getLast? = some y := by
  rw [dd_last, List.take_add_one, h]; simp
theorem dd_same {D : List ID} {j : Nat} {y : ID} (h1 : D[j]? = some y) (h2 : D[j + 1]? = some y) : dd (D.take (j + 1 + 1)) = dd (D.take (j + 1)) := by
  rw [dd_take D h2]; unfold ddStep; rw [if_pos (last_take h1)]
theorem dd_other {D : List ID} {j : Nat} {x y : ID} (h1 : D[j]? = some y) (h2 : D[j + 1]? = some x) (hne : x ≠ y) : dd (D.take (j + 1 + 1)) = dd (D.take (j + 1)) ++ [x] := by
  rw [dd_take D h2]; unfold ddStep; rw [if_neg]; rw [last_take h1]; exact fun e => hne (Option.some.inj e).symm
theorem eq_cases (x y : ID) : x = y ∨ (x ≠ y ∧ (x.t == y.t) = false) ∨ (x ≠ y ∧ (x.t == y.t) = true ∧ (x.s == y.s) = false) := by
  by_cases h1 : x.t = y.t
  · by_cases h2 : x.s = y.s
    · exact .inl (by rw [ID.ext_iff]; exact ⟨h1, h2⟩)
    · exact .inr (.inr ⟨fun e => h2 (by rw [e]), by simpa using h1, by simpa using h2⟩)
  · exact .inr (.inl ⟨fun e => h1 (by rw [e]), by simpa using h1⟩)

/-- what Compact keeps: k written, j looked at -/
structure CoInv (D : List ID) (k j : Nat) (X : List ID) : Prop where
  len : X.length = D.length
  low : X.take k = dd (D.take j)
  kl : k = (dd (D.take j)).length
  lt : k < j
  high : ∀ m, j ≤ m + 1 → X[m]? = D[m]?
theorem CoInv.start {D : List ID} {k : Nat} {y : ID} (h : dd (D.take (k + 1)) = D.take (k + 1)) (h1 : D[k]? = some y) (h2 : D[k + 1]? = some y) : CoInv D (k + 1) (k + 1 + 1) D := by
  have hl := (List.getElem?_eq_some_iff.1 h2).1
  have e := (dd_same h1 h2).trans h
  exact ⟨rfl, e.symm, by rw [e, List.length_take]; omega, by omega, fun _ _ => rfl⟩
theorem CoInv.skip {D X : List ID} {k j : Nat} {y : ID} (h : CoInv D k (j + 1) X) (h1 : D[j]? = some y) (h2 : D[j + 1]? = some y) : CoInv D k (j + 1 + 1) X := by
  have e := dd_same h1 h2
  exact ⟨h.len, by rw [e]; exact h.low, by rw [e]; exact h.kl, by have := h.lt; omega, fun m hm => h.high m (by omega)⟩
theorem CoInv.keep {D X : List ID} {k j : Nat} {x y : ID} (h : CoInv D k (j + 1) X) (h1 : D[j]? = some y) (h2 : D[j + 1]? = some x) (hne : x ≠ y) : CoInv D (k + 1) (j + 1 + 1) (X.set k x) := by
  have hj : j + 1 < D.length := (List.getElem?_eq_some_iff.1 h2).1
  have hl := h.len
  have hk := h.lt
  have e := dd_other h1 h2 hne
  refine ⟨by simpa using hl, ?_, by rw [e, List.length_append, ← h.kl]; rfl, by omega, fun m hm => ?_⟩
  · rw [e, ← h.low, List.take_add_one, List.take_set_of_le (Nat.le_refl _), List.getElem?_set_self (by omega)]
    rfl
  · rw [List.getElem?_set_ne (by omega)]
    exact h.high m (by omega)
theorem CoInv.done {D X : List ID} {k : Nat} (h : CoInv D k D.length X) : X.take k = dd D ∧ k = (dd D).length := by
  have h1 := h.low
  have h2 := h.kl
  rw [List.take_length] at h1 h2
  exact ⟨h1, h2⟩
theorem dd_short {D : List ID} (h : D.length < 2) : dd D = D := by
  match D, h with
  | [], _ => rfl
  | [x], _ => rfl
  | _ :: _ :: _, h => simp at h; omega

end Go.Proofs.YtjohljmpcblpjaaGreatDoor.St
namespace Go.Proofs.YtjohljmpcblpjaaGreatDoor.St
open Go.RowKit

theorem eqIn_id (x y : ID) (w : World) : (Op.equal 59 (idV x) (idV y)).run Tryz.prog w = .ok (decide (x = y)) w := by
  have h : decide (x = y) = (x.t == y.t && x.s == y.s) := by
    rw [Bool.eq_iff_iff]
    simp [ID.ext_iff]
  rw [h]
  obtain ⟨a, b⟩ := x
  obtain ⟨c, d⟩ := y
  show (Op.equalIn 10000 59 (.agg #[.int .i64 a, .int .i64 b]) (.agg #[.int .i64 c, .int .i64 d])).run Tryz.prog w = _
  go_simp
  by_cases h1 : a = c
  · by_cases h2 : b = d
    · simp [h1, h2]
    · simp [h1, h2]
  · simp [h1]
def idK : KeyE Tryz.prog 59 ID where
  enc := idV
  check := fun _ _ _ => by kernel_rfl
  now := fun k x d hd => .inl (by
    have e : Tryz.prog.underlying 59 = some d := hd
    rw [Tryz.underlying59] at e
    cases e
    rfl)
  ask := eqIn_id
  bits := fun k => by simp [idV, Instr.sameBits]
  und := ⟨_, Tryz.underlying59⟩
def intK : KeyE Tryz.prog 3 Int where
  enc := Value.int .i64
  check := fun _ _ _ => by kernel_rfl
  now := fun k x d hd => .inr (by
    have e : Tryz.prog.underlying 3 = some d := hd
    rw [Tryz.underlying3] at e
    cases e
    simp only [Instr.sameNow, if_pos]
    rw [show (k == x) = decide (k = x) by rw [Bool.eq_iff_iff]; simp])
  ask := fun k x w => by
    have h : decide (k = x) = (k == x) := by rw [Bool.eq_iff_iff]; simp
    rw [h]
    exact run_equalIn_int w 9999 3 .i64 .i64 k x Tryz.underlying3
  bits := fun k => by simp [Instr.sameBits]
  und := ⟨_, Tryz.underlying3⟩
end Go.Proofs.YtjohljmpcblpjaaGreatDoor.St
namespace Go.Proofs.YtjohljmpcblpjaaGreatDoor.St
open Go.RowKit

/-- the map from the identifier that would follow a run to its place -/
def GrowsOk (kvs : List (ID × Value)) (out : List Run) : Prop := KeysOk kvs ∧ ∀ x, getK kvs x = (growAt out x).map fun k : Nat => Value.int .i64 (k : Int)
theorem growAt_next {out : List Run} (hn : (out.map Run.next).Nodup) {k : Nat} {r : Run} (hk : out[k]? = some r) : growAt out r.next = some k := growAt_of hn hk rfl
theorem growAt_iff {out : List Run} (hn : (out.map Run.next).Nodup) {x : ID} {k : Nat} : growAt out x = some k ↔ ∃ r, out[k]? = some r ∧ r.next = x :=
  ⟨growAt_some, fun ⟨_, h1, h2⟩ => growAt_of hn h1 h2⟩
theorem opt_ext {α : Type} {a b : Option α} (h : ∀ k, a = some k ↔ b = some k) : a = b := by
  cases a with
  | none => cases b with
    | none => rfl
    | some y => exact absurd ((h y).2 rfl) (by simp)
  | some x => exact ((h x).1 rfl).symm
theorem modify_get {out : List Run} {k i : Nat} {r : Run} (hk : out[k]? = some r) : (out.modify k Run.up)[i]? = if k = i then some r.up else out[i]? := by
  rw [List.getElem?_modify]
  by_cases h : k = i
  · subst h; simp [hk]
  · simp [h]
/-- a run that grows -/
theorem GrowsOk.grow {kvs : List (ID × Value)} {out : List Run} {P Q : ID → Prop} {x : ID} {k : Nat} (h : GrowsOk kvs out) (ho : PackOk out P) (ho2 : PackOk (packStep out x) Q) (hg : growAt out x = some k) :
    GrowsOk (putK (delK kvs x) ⟨x.t + 1, x.s⟩ (.int .i64 (k : Int))) (packStep out x) := by
  obtain ⟨h1, h2⟩ := h
  refine ⟨(h1.del x).put _ _, fun y => ?_⟩
  rw [getK_put, getK_del h1, h2]
  have e : packStep out x = out.modify k Run.up := by unfold packStep; rw [hg]
  obtain ⟨r, hk, hr⟩ := growAt_some hg
  have hn2 := ho2.nodup
  rw [e] at hn2 ⊢
  have hup : r.up.next = ⟨x.t + 1, x.s⟩ := by
    have e1 := congrArg ID.t hr
    have e2 := congrArg ID.s hr
    simp only [Run.next] at e1 e2
    rw [ID.ext_iff]
    simp only [Run.next, Run.up]
    exact ⟨by omega, e2⟩
  have hk2 : (out.modify k Run.up)[k]? = some r.up := by rw [modify_get hk, if_pos rfl]
  by_cases hy : (⟨x.t + 1, x.s⟩ : ID) = y
  · rw [if_pos hy, growAt_of hn2 hk2 (hup.trans hy)]; rfl
  · rw [if_neg hy]
    have key : growAt (out.modify k Run.up) y = if x = y then none else growAt out y := by
      refine opt_ext fun m => ?_
      rw [growAt_iff hn2]
      by_cases hxy : x = y
      · rw [if_pos hxy]
        constructor
        · rintro ⟨q, hq, hqn⟩
          rw [modify_get hk] at hq
          split at hq
          · cases hq; exact absurd (hup.symm.trans hqn) hy
          · rename_i hkm
            have h3 : growAt out x = some m := growAt_of ho.nodup hq (hqn.trans hxy.symm)
            rw [hg] at h3
            exact absurd (Option.some.inj h3) hkm
        · intro h3; cases h3
      · rw [if_neg hxy, growAt_iff ho.nodup]
        constructor
        · rintro ⟨q, hq, hqn⟩
          rw [modify_get hk] at hq
          split at hq
          · cases hq; exact absurd (hup.symm.trans hqn) hy
          · exact ⟨q, hq, hqn⟩
        · rintro ⟨q, hq, hqn⟩
          refine ⟨q, ?_, hqn⟩
          rw [modify_get hk, if_neg]
          · exact hq
          · rintro rfl
            rw [hk] at hq
            cases hq
            exact hxy (hr.symm.trans hqn)
    rw [key]
    by_cases hxy : x = y
    · rw [if_pos hxy, if_pos hxy]; rfl
    · rw [if_neg hxy, if_neg hxy]
/-- a new run -/
theorem GrowsOk.new {kvs : List (ID × Value)} {out : List Run} {P Q : ID → Prop} {x : ID} (h : GrowsOk kvs out) (ho : PackOk out P) (ho2 : PackOk (packStep out x) Q) (hg : growAt out x = none) :
    GrowsOk (putK kvs ⟨x.t + 1, x.s⟩ (.int .i64 (out.length : Int))) (packStep out x) := by
  obtain ⟨h1, h2⟩ := h
  refine ⟨h1.put _ _, fun y => ?_⟩
  rw [getK_put, h2]
  have e : packStep out x = out ++ [⟨x, 1⟩] := by unfold packStep; rw [hg]
  have hn2 := ho2.nodup
  rw [e] at hn2 ⊢
  have hlast : (out ++ [⟨x, 1⟩])[out.length]? = some ⟨x, 1⟩ := by simp
  have hnext : Run.next ⟨x, 1⟩ = ⟨x.t + 1, x.s⟩ := rfl
  by_cases hy : (⟨x.t + 1, x.s⟩ : ID) = y
  · rw [if_pos hy, growAt_of hn2 hlast (hnext.trans hy)]; rfl
  · rw [if_neg hy]
    congr 1
    refine opt_ext fun m => ?_
    rw [growAt_iff hn2, growAt_iff ho.nodup]
    constructor
    · rintro ⟨q, hq, hqn⟩
      exact ⟨q, by rw [List.getElem?_append_left (List.getElem?_eq_some_iff.1 hq).1]; exact hq, hqn⟩
    · rintro ⟨q, hq, hqn⟩
      by_cases hm : m < out.length
      · rw [List.getElem?_append_left hm] at hq; exact ⟨q, hq, hqn⟩
      · have : m = out.length := by
          have := (List.getElem?_eq_some_iff.1 hq).1
          simp at this; omega
        subst this
        rw [hlast] at hq
        cases hq
        exact absurd (hnext.symm.trans hqn) hy
theorem packOk_take {S : List ID} (hS : Rising S) : ∀ n, n ≤ S.length → PackOk (packL (S.take n)) (fun y => y ∈ S.take n) := by
  intro n
  induction n with
  | zero => intro _; exact ⟨by simp [packL], by simp [packL], by simp [packL]⟩
  | succ n ih =>
    intro hn
    obtain ⟨x, hx⟩ := get_of_lt (show n < S.length by omega)
    have e : S.take (n + 1) = S.take n ++ [x] := by rw [List.take_add_one, hx]; rfl
    have e2 : packL (S.take (n + 1)) = packStep (packL (S.take n)) x := by rw [e]; simp [packL, List.foldl_append]
    rw [e2]
    refine packStep_ok (ih (by omega)) (fun y hy => ?_) (fun y hy => by rw [e]; exact List.mem_append_left _ hy) (by rw [e]; simp)
    rintro rfl
    rw [Rising, ← List.take_append_drop n S] at hS
    have h1 := (List.pairwise_append.1 hS).2.2 y hy y (by rw [List.drop_eq_getElem_cons (by omega)]; rw [List.getElem?_eq_getElem (by omega)] at hx; rw [Option.some.inj hx]; simp)
    exact ID.lt_irrefl _ h1
theorem packL_take_succ {S : List ID} {n : Nat} {x : ID} (hx : S[n]? = some x) : packL (S.take (n + 1)) = packStep (packL (S.take n)) x := by
  rw [List.take_add_one, hx]; simp [packL, List.foldl_append]
theorem packL_len (S : List ID) : (packL S).length ≤ S.length := by
  have : ∀ (l : List ID) (out : List Run), (l.foldl packStep out).length ≤ out.length + l.length := by
    intro l
    induction l with
    | nil => intro out; simp
    | cons x l ih =>
      intro out
      have h1 := ih (packStep out x)
      have h2 := packStep_len out x
      simp only [List.foldl_cons, List.length_cons]
      omega
  have h := this S []
  rw [List.length_nil, Nat.zero_add] at h
  exact h
theorem packL_ids (S : List ID) : ∀ r ∈ packL S, r.id ∈ S := by
  induction S using snoc_ind with
  | h0 => simp [packL]
  | h1 l x ih =>
    have e : packL (l ++ [x]) = packStep (packL l) x := by simp [packL, List.foldl_append]
    rw [e]
    unfold packStep
    cases hg : growAt (packL l) x with
    | none =>
      intro r hr
      rcases List.mem_append.1 hr with hr | hr
      · exact List.mem_append_left _ (ih r hr)
      · simp only [List.mem_cons, List.not_mem_nil, or_false] at hr
        subst hr
        exact List.mem_append_right _ (by simp)
    | some k =>
      obtain ⟨q, hk, hq⟩ := growAt_some hg
      intro r hr
      obtain ⟨i, hi⟩ := List.getElem?_of_mem hr
      have hi2 : ((packL l).modify k Run.up)[i]? = some r := hi
      rw [modify_get hk] at hi2
      split at hi2
      · cases hi2
        exact List.mem_append_left _ (ih q (List.mem_of_getElem? hk))
      · exact List.mem_append_left _ (ih r (List.mem_of_getElem? hi2))
end Go.Proofs.YtjohljmpcblpjaaGreatDoor.St
namespace Go.Proofs.YtjohljmpcblpjaaGreatDoor.St
open Go.RowKit

theorem setOf_dd {L D' : List ID} (hp : D'.Perm (L.filter isB)) (hs : Sorted D') : SetOf L (dd D') := by
  refine ⟨dd_rising hs, fun x => ?_⟩
  rw [dd_mem, hp.mem_iff, List.mem_filter]
  simp [isB]

theorem OwnAt.run {w : World} {t : TypeId} {g cap : Nat} {D : List Run} (h : OwnAt runE w t g cap D) {i : Nat} {x : Run} (hx : D[i]? = some x) :
    w.cell? ⟨g, i * 3, none⟩ = some (.int .i64 x.id.t) ∧ w.cell? ⟨g, i * 3 + 1, none⟩ = some (.int .i64 x.id.s) ∧ w.cell? ⟨g, i * 3 + 2, none⟩ = some (.int .i64 x.c) := ⟨h.cell (j := 0) hx rfl, h.cell (j := 1) hx rfl, h.cell (j := 2) hx rfl⟩
theorem packStep_some {out : List Run} {x : ID} {k : Nat} {r : Run} (hg : growAt out x = some k) (hk : out[k]? = some r) : packStep out x = out.set k r.up := by
  have hkl : k < out.length := (List.getElem?_eq_some_iff.1 hk).1
  unfold packStep
  rw [hg]
  apply List.ext_getElem?
  intro i
  show (out.modify k Run.up)[i]? = _
  rw [modify_get hk, List.getElem?_set]
  by_cases h : k = i
  · subst h; simp [hkl]
  · simp [h]
/-- where Pack's loop stands -/
def PackRel (w : World) (g cap mb : Nat) (S : List ID) (rv iv : Value) (wr : World) : Prop :=
  ∃ (v : Value) (n : Nat) (kvs : List (ID × Value)), v = rv ∧ iv = .int .i64 n ∧ n ≤ S.length ∧ wr.ownsRow w.heap.size 89 3 v (packL (S.take n)).length (runE.flat (packL (S.take n))) ∧ MapK idK wr mb kvs ∧ GrowsOk kvs (packL (S.take n)) ∧ OwnAt idE wr 59 g cap S ∧ Kept (fun _ => False) w wr
theorem Kept.newer {w w1 w2 : World} {b : Nat} (h : Kept (fun _ => False) w w1) (k : Kept (· = b) w1 w2) (hb : w.heap.size ≤ b) : Kept (fun _ => False) w w2 := h.trans k fun i hi e => by omega
end Go.Proofs.YtjohljmpcblpjaaGreatDoor.St
namespace Go.Proofs.YtjohljmpcblpjaaGreatDoor.St
open Go.RowKit

/-- the map of each site's last time -/
def EndsOk (kvs : List (Int × Value)) (pre : List Run) : Prop := ∀ s, getK kvs s = (lastOf pre s).map fun r : Run => Value.int .i64 (r.id.t + r.c - 1)
theorem EndsOk.snoc {kvs : List (Int × Value)} {pre : List Run} (h : EndsOk kvs pre) (x : Run) : EndsOk (putK kvs x.id.s (.int .i64 (x.id.t + x.c - 1))) (pre ++ [x]) := by
  intro s
  rw [getK_put, lastOf_snoc, h]
  by_cases hs : x.id.s = s
  · rw [if_pos hs, if_pos hs]; rfl
  · rw [if_neg hs, if_neg hs]
theorem why_cases (pre : List Run) (x : Run) : (¬ x.Ok ∧ why pre x = 1) ∨ (x.Ok ∧ (∃ p, pre.getLast? = some p ∧ ¬ p.id.lt x.id) ∧ why pre x = 9) ∨
    (x.Ok ∧ (∀ p, pre.getLast? = some p → p.id.lt x.id) ∧ (∃ p ∈ pre, p.id.s = x.id.s ∧ x.id.t ≤ p.id.t + p.c) ∧ why pre x = 6) ∨ (x.Ok ∧ (∀ p, pre.getLast? = some p → p.id.lt x.id) ∧ (¬ ∃ p ∈ pre, p.id.s = x.id.s ∧ x.id.t ≤ p.id.t + p.c) ∧ why pre x = 0) := by
  unfold why
  by_cases h1 : x.Ok
  · rw [if_neg (by simpa using h1)]
    by_cases h2 : ∃ p, pre.getLast? = some p ∧ ¬ p.id.lt x.id
    · rw [if_pos h2]; exact .inr (.inl ⟨h1, h2, rfl⟩)
    · have h2' : ∀ p, pre.getLast? = some p → p.id.lt x.id := fun p hp => by
        by_cases hl : p.id.lt x.id
        · exact hl
        · exact absurd ⟨p, hp, hl⟩ h2
      rw [if_neg h2]
      by_cases h3 : ∃ p ∈ pre, p.id.s = x.id.s ∧ x.id.t ≤ p.id.t + p.c
      · rw [if_pos h3]; exact .inr (.inr (.inl ⟨h1, h2', h3, rfl⟩))
      · rw [if_neg h3]; exact .inr (.inr (.inr ⟨h1, h2', h3, rfl⟩))
  · rw [if_pos h1]; exact .inl ⟨h1, rfl⟩
theorem take_last {α : Type} {l : List α} {n : Nat} {p : α} (h : l[n]? = some p) : (l.take (n + 1)).getLast? = some p := by rw [List.take_add_one, h]; simp
theorem good_next {l : List Run} {n : Nat} {x : Run} (hx : l[n]? = some x) (hg : Good (l.take n)) (hw : why (l.take n) x = 0) : Good (l.take (n + 1)) := by
  rw [List.take_add_one, hx]; exact good_snoc.2 ⟨hg, hw⟩

theorem old_cell {w w' : World} (hk : Kept (fun _ => False) w w') {a : Addr} {v : Value} (h : w.cell? a = some v) : w'.cell? a = some v :=
  (World.cell?_of_block (a := a) (hk.block a.block (World.block_lt_of_cell? w a h) (fun h => h))).trans h
/-- where Check's loop stands -/
def ChRel (w : World) (mb : Nat) (L : List Run) (iv : Value) (wr : World) : Prop :=
  ∃ (n : Nat) (kvs : List (Int × Value)), iv = .int .i64 n ∧ n ≤ L.length ∧ Good (L.take n) ∧ MapK intK wr mb kvs ∧ EndsOk kvs (L.take n) ∧ Kept (fun _ => False) w wr
set_option maxRecDepth 100000 in
set_option maxHeartbeats 4000000 in
theorem check_any {w : World} {v : Value} {L : List Run} (h : SlAt runE w v L) (hin : ∀ r ∈ L, r.In) (hb : L.length ≤ 1000000000) : Calls Tryz.prog 224 #[v] w fun e w' => ∃ c, e = .returned (.int .i64 c) ∧ CheckIs L c ∧ Kept (fun _ => False) w w' := by
  have hmm := @run_makeMap Tryz.prog
  obtain ⟨a, c, rfl, _, _⟩ := h.sl
  have HI := Lib.hid hin
  have HS := Lib.hid h
  clear hin h
  go_enter Tryz.func224, Tryz.ntmps224
  go_wp2_with fail
  go_loopw [12] (fun iv wr => ChRel w w.heap.size L iv wr) (fun iv _ => L.length - (intOf iv).toNat)
  case atStart => exact ⟨0, [], rfl, Nat.zero_le _, fun n x hx => by simp at hx, MapK.made w, fun s => rfl, (Kept.refl _ _).alloc _⟩
  case round =>
    obtain ⟨n, kvs, rfl, hn, hgood, hM, hE, hkw⟩ := hrel
    have GD := Lib.hid hgood
    have EN := Lib.hid hE
    clear hgood hE
    by_cases hlt : n < L.length
    case neg =>
      have hge : L.length ≤ n := by omega
      go_wp2_with fail
      go_ret
      exact ⟨0, rfl, .inl ⟨rfl, by have := GD.out; rwa [List.take_of_length_le hge] at this⟩, hkw⟩
    case pos =>
      obtain ⟨x, hx⟩ := get_of_lt hlt
      obtain ⟨g, o, c', hv, hglt, hc⟩ := SlAt.run (HS.out.kept hkw) (by omega)
      cases hv
      obtain ⟨c0, c1, c2⟩ := hc n x hx
      obtain ⟨i1, i2, i3⟩ := HI.out x (List.mem_of_getElem? hx)
      unfold I64 at i1 i2 i3
      have HC := Lib.hid hc
      have X0 := Lib.hid hx
      clear hc hx
      have hn0 : (0 : Int) ≤ n := by omega
      have hnl : (n : Int) < L.length := by omega
      have hla := last_core x.id.t x.id.s x.c i3.1 i3.2 (wr.alloc (.cells #[.int .i64 x.id.t, .int .i64 x.id.s, .int .i64 x.c] 89))
      have hlast : (if x.c < 1 then ID.zero else ID.after ⟨x.id.t, x.id.s⟩ (x.c - 1)) = x.last := rfl
      rw [hlast] at hla
      clear hlast
      have hk1 : Kept (fun _ => False) wr (wr.alloc (.cells #[.int .i64 x.id.t, .int .i64 x.id.s, .int .i64 x.c] 89)) := (Kept.refl _ _).alloc _
      have hB1 := Blk.new wr 89 #[.int .i64 x.id.t, .int .i64 x.id.s, .int .i64 x.c]
      have HB1 := Lib.hid hB1
      have HK1 := Lib.hid hk1
      clear hB1 hk1
      rcases why_cases (L.take n) x with ⟨hok, hw⟩ | ⟨hok, hlast, hw⟩ | ⟨hok, hord, hform, hw⟩ | ⟨hok, hord, hform, hw⟩
      · have HW := Lib.hid hw
        rw [last_zero.2 hok] at hla
        clear hok hw
        go_wp2_with fail
        refine hla.mono ?_
        rintro e w1 ⟨rfl, hg1⟩
        unfold idV ID.zero
        go_wp2_with fail
        go_ret
        exact ⟨1, rfl, .inr ⟨n, x, X0.out, GD.out, HW.out, by decide⟩, ((hkw.trans HK1.out (fun _ _ h => h)).trans hg1.kept (fun _ _ h => h)).alloc _⟩
      · obtain ⟨p, hp, hpl⟩ := hlast
        obtain ⟨m, rfl⟩ : ∃ m, n = m + 1 := ⟨n - 1, by
          have : n ≠ 0 := by rintro rfl; simp at hp
          omega⟩
        obtain ⟨p', hp'⟩ := get_of_lt (show m < L.length by omega)
        have epp : p = p' := Option.some.inj (hp.symm.trans (take_last hp'))
        subst epp
        clear hp
        obtain ⟨e0, e1, _⟩ := HC.out m p hp'
        have HW := Lib.hid hw
        have hIs := hok.2.1
        unfold ID.Is at hIs
        obtain ⟨j1, j2, j3, j4⟩ := hIs
        have j5 := hok.1
        have j6 := hok.2.2
        rw [last_ok hok] at hla
        have z1 : (x.id.t + x.c - 1 == 0) = false := beq_eq_false_iff_ne.2 (by omega)
        have z2 : (x.id.s == 0) = false := beq_eq_false_iff_ne.2 (by omega)
        have hcmp : x.id.cmp p.id ≤ 0 := Int.not_lt.1 fun e => hpl (cmp_gt.1 e)
        have hd : decide ((0 : Int) < (m : Int) + 1) = true := decide_eq_true (by omega)
        have hm0 : (0 : Int) ≤ m := by omega
        have hml : (m : Int) < L.length := by omega
        have hd2 : decide (x.id.cmp p.id ≤ 0) = true := by simpa using hcmp
        have P0 := Lib.hid hp'
        clear hok hw hpl hp' hcmp
        go_wp2_with fail
        refine hla.mono ?_
        rintro e w1 ⟨rfl, hg1⟩
        unfold idV
        have HG1 := Lib.hid hg1
        clear hg1 hla
        go_wp2_with fail
        have hW5 := HG1.out.box HB1.out
        have hW6 := hW5.alloc (.cells #[.int .i64 (x.id.t + x.c - 1), .int .i64 x.id.s] 59)
        have hk6 : Kept (fun _ => False) wr (w1.alloc (.cells #[.int .i64 (x.id.t + x.c - 1), .int .i64 x.id.s] 59)) := (HK1.out.trans HG1.out.kept (fun _ _ h => h)).alloc _
        have q0 : _ = some (Value.int .i64 x.id.t) := hW6.cell' (i := 0) rfl
        have q1 : _ = some (Value.int .i64 x.id.s) := hW6.cell' (i := 1) rfl
        have q2 := old_cell hk6 e0
        have q3 := old_cell hk6 e1
        have HW6 := Lib.hid hW6
        have HK6 := Lib.hid hk6
        clear hW5 hW6 hk6
        generalize w1.alloc (.cells #[.int .i64 (x.id.t + x.c - 1), .int .i64 x.id.s] 59) = W at *
        have hw1 : IntKind.i64.wrap (m : Int) = (m : Int) := IntWalk.i64_in _ (by omega)
        go_region_held3 (fun w' => w'.cell? ⟨wr.heap.size, 0, none⟩ = some (.int .i64 x.id.t) ∧ w'.cell? ⟨wr.heap.size, 1, none⟩ = some (.int .i64 x.id.s) ∧ w'.cell? ⟨g, o + m * 3, none⟩ = some (.int .i64 p.id.t) ∧ w'.cell? ⟨g, o + m * 3 + 1, none⟩ = some (.int .i64 p.id.s)) (first | exact ⟨q0, q1, q2, q3⟩ | exact ⟨s0, s1, s2, s3⟩)
          (first
            | (go_simp; go_at_call 155; refine (compare_any x.id p.id _).mono ?_; rintro e w2 ⟨rfl, hg2⟩; have s0 : w2.cell? ⟨wr.heap.size, 0, none⟩ = some (.int .i64 x.id.t) := (hg2.box HW6.out).cell' rfl; have s1 : w2.cell? ⟨wr.heap.size, 1, none⟩ = some (.int .i64 x.id.s) := (hg2.box HW6.out).cell' rfl; have s2 := old_cell hg2.kept q2; have s3 := old_cell hg2.kept q3))
        go_wp2_with fail
        go_ret
        exact ⟨9, rfl, .inr ⟨m + 1, x, X0.out, GD.out, HW.out, by decide⟩, ((hkw.trans HK6.out (fun _ _ h => h)).drew).trans hg2.kept (fun _ _ h => h)⟩
      · rcases Nat.eq_zero_or_pos n with rfl | hnp
        · have hd : decide ((0 : Int) < 0) = false := by decide
          simp only [Nat.zero_mul, Nat.add_zero] at c0 c1 c2
          rw [show ((0 : Nat) : Int) = 0 from rfl]
          have HW := Lib.hid hw
          have hIs := hok.2.1
          unfold ID.Is at hIs
          obtain ⟨j1, j2, j3, j4⟩ := hIs
          have j5 := hok.1
          have j6 := hok.2.2
          rw [last_ok hok] at hla
          have z1 : (x.id.t + x.c - 1 == 0) = false := beq_eq_false_iff_ne.2 (by omega)
          have z2 : (x.id.s == 0) = false := beq_eq_false_iff_ne.2 (by omega)
          clear hok hw hord
          go_wp2_with fail
          refine hla.mono ?_
          rintro e w1 ⟨rfl, hg1⟩
          unfold idV
          have HG1 := Lib.hid hg1
          clear hg1 hla
          go_wp2_with fail
          have hW5 := HG1.out.box HB1.out
          have hW6 := hW5.alloc (.cells #[.int .i64 (x.id.t + x.c - 1), .int .i64 x.id.s] 59)
          have hk6 : Kept (fun _ => False) wr (w1.alloc (.cells #[.int .i64 (x.id.t + x.c - 1), .int .i64 x.id.s] 59)) := (HK1.out.trans HG1.out.kept (fun _ _ h => h)).alloc _
          have q0 : _ = some (Value.int .i64 x.id.t) := hW6.cell' (i := 0) rfl
          have q1 : _ = some (Value.int .i64 x.id.s) := hW6.cell' (i := 1) rfl
          have HW6 := Lib.hid hW6
          have HK6 := Lib.hid hk6
          have hv6 := Blk.new w1 59 #[.int .i64 (x.id.t + x.c - 1), .int .i64 x.id.s]
          have HV6 := Lib.hid hv6
          clear hW5 hW6 hk6 hv6
          generalize w1.alloc (.cells #[.int .i64 (x.id.t + x.c - 1), .int .i64 x.id.s] 59) = W at *
          go_quiet (fail)
          have hkX : Kept (fun _ => False) wr (W.drewN nq) := HK6.out.drewN _
          have u0 : _ = some (Value.int .i64 x.id.t) := (HW6.out.drewN nq).cell' (i := 0) rfl
          have u1 : _ = some (Value.int .i64 x.id.s) := (HW6.out.drewN nq).cell' (i := 1) rfl
          have u2 : _ = some (Value.int .i64 (x.id.t + x.c - 1)) := (HV6.out.drewN nq).cell' (i := 0) rfl
          have hM2 := hM.keep hkX (fun h => h)
          obtain ⟨r, hr, hrt⟩ := (form_iff GD.out x).1 hform
          have rok := GD.out.ok r (lastOf_mem hr).1
          have r1 := rok.2.2
          have r2 := rok.2.1
          have r3 := rok.1
          unfold ID.Is at r2
          have hget := EN.out x.id.s
          rw [hr] at hget
          have hlk : (Instr.lookup 168 (.map (some w.heap.size)) (.int .i64 x.id.s) true).run Tryz.prog (W.drewN nq) = .ok (.tuple #[.int .i64 (r.id.t + r.c - 1), .bool true]) (W.drewN nq) := run_lookupK_ok (K := intK) (k := x.id.s) Tryz.underlying168 hM2 hget
          obtain ⟨r4, r5, r6, r7⟩ := r2
          clear hget hr rok hform hM2
          go_wp2_with fail
          go_ret
          exact ⟨6, rfl, .inr ⟨0, x, X0.out, GD.out, HW.out, by decide⟩, hkw.trans hkX (fun _ _ h => h)⟩
        · obtain ⟨m, rfl⟩ : ∃ m, n = m + 1 := ⟨n - 1, by omega⟩
          obtain ⟨p, hp'⟩ := get_of_lt (show m < L.length by omega)
          have hpl := hord p (take_last hp')
          obtain ⟨e0, e1, _⟩ := HC.out m p hp'
          have HW := Lib.hid hw
          have hIs := hok.2.1
          unfold ID.Is at hIs
          obtain ⟨j1, j2, j3, j4⟩ := hIs
          have j5 := hok.1
          have j6 := hok.2.2
          rw [last_ok hok] at hla
          have z1 : (x.id.t + x.c - 1 == 0) = false := beq_eq_false_iff_ne.2 (by omega)
          have z2 : (x.id.s == 0) = false := beq_eq_false_iff_ne.2 (by omega)
          have hcmp : ¬ x.id.cmp p.id ≤ 0 := Int.not_le.2 (cmp_gt.2 hpl)
          have hd : decide ((0 : Int) < (m : Int) + 1) = true := decide_eq_true (by omega)
          have hm0 : (0 : Int) ≤ m := by omega
          have hml : (m : Int) < L.length := by omega
          have hd2 : decide (x.id.cmp p.id ≤ 0) = false := by simpa using hcmp
          clear hok hw hpl hp' hcmp hord
          go_wp2_with fail
          refine hla.mono ?_
          rintro e w1 ⟨rfl, hg1⟩
          unfold idV
          have HG1 := Lib.hid hg1
          clear hg1 hla
          go_wp2_with fail
          have hW5 := HG1.out.box HB1.out
          have hW6 := hW5.alloc (.cells #[.int .i64 (x.id.t + x.c - 1), .int .i64 x.id.s] 59)
          have hk6 : Kept (fun _ => False) wr (w1.alloc (.cells #[.int .i64 (x.id.t + x.c - 1), .int .i64 x.id.s] 59)) := (HK1.out.trans HG1.out.kept (fun _ _ h => h)).alloc _
          have q0 : _ = some (Value.int .i64 x.id.t) := hW6.cell' (i := 0) rfl
          have q1 : _ = some (Value.int .i64 x.id.s) := hW6.cell' (i := 1) rfl
          have q2 := old_cell hk6 e0
          have q3 := old_cell hk6 e1
          have HW6 := Lib.hid hW6
          have HK6 := Lib.hid hk6
          have hv6 := Blk.new w1 59 #[.int .i64 (x.id.t + x.c - 1), .int .i64 x.id.s]
          have HV6 := Lib.hid hv6
          clear hW5 hW6 hk6 hv6
          generalize w1.alloc (.cells #[.int .i64 (x.id.t + x.c - 1), .int .i64 x.id.s] 59) = W at *
          have hw1 : IntKind.i64.wrap (m : Int) = (m : Int) := IntWalk.i64_in _ (by omega)
          go_region_held3 (fun w' => w'.cell? ⟨wr.heap.size, 0, none⟩ = some (.int .i64 x.id.t) ∧ w'.cell? ⟨wr.heap.size, 1, none⟩ = some (.int .i64 x.id.s) ∧ w'.cell? ⟨g, o + m * 3, none⟩ = some (.int .i64 p.id.t) ∧ w'.cell? ⟨g, o + m * 3 + 1, none⟩ = some (.int .i64 p.id.s)) (first | exact ⟨q0, q1, q2, q3⟩ | exact ⟨s0, s1, s2, s3⟩)
            (first
              | (go_simp; go_at_call 155; refine (compare_any x.id p.id _).mono ?_; rintro e w2 ⟨rfl, hg2⟩; have s0 : w2.cell? ⟨wr.heap.size, 0, none⟩ = some (.int .i64 x.id.t) := (hg2.box HW6.out).cell' rfl; have s1 : w2.cell? ⟨wr.heap.size, 1, none⟩ = some (.int .i64 x.id.s) := (hg2.box HW6.out).cell' rfl; have s2 := old_cell hg2.kept q2; have s3 := old_cell hg2.kept q3))
          clear hw1
          have hkX : Kept (fun _ => False) wr w2 := (HK6.out.drew).trans hg2.kept (fun _ _ h => h)
          have u0 : _ = some (Value.int .i64 x.id.t) := (hg2.box HW6.out).cell' (i := 0) rfl
          have u1 : _ = some (Value.int .i64 x.id.s) := (hg2.box HW6.out).cell' (i := 1) rfl
          have u2 : _ = some (Value.int .i64 (x.id.t + x.c - 1)) := (hg2.box HV6.out).cell' (i := 0) rfl
          have hM2 := hM.keep hkX (fun h => h)
          obtain ⟨r, hr, hrt⟩ := (form_iff GD.out x).1 hform
          have rok := GD.out.ok r (lastOf_mem hr).1
          have r1 := rok.2.2
          have r2 := rok.2.1
          have r3 := rok.1
          unfold ID.Is at r2
          have hget := EN.out x.id.s
          rw [hr] at hget
          have hlk : (Instr.lookup 168 (.map (some w.heap.size)) (.int .i64 x.id.s) true).run Tryz.prog w2 = .ok (.tuple #[.int .i64 (r.id.t + r.c - 1), .bool true]) w2 := run_lookupK_ok (K := intK) (k := x.id.s) Tryz.underlying168 hM2 hget
          obtain ⟨r4, r5, r6, r7⟩ := r2
          clear hget hr rok hform hM2
          go_wp2_with fail
          go_ret
          exact ⟨6, rfl, .inr ⟨m + 1, x, X0.out, GD.out, HW.out, by decide⟩, hkw.trans hkX (fun _ _ h => h)⟩
      · rcases Nat.eq_zero_or_pos n with rfl | hnp
        · have hd : decide ((0 : Int) < 0) = false := by decide
          simp only [Nat.zero_mul, Nat.add_zero] at c0 c1 c2
          rw [show ((0 : Nat) : Int) = 0 from rfl]
          have HW := Lib.hid hw
          have hIs := hok.2.1
          unfold ID.Is at hIs
          obtain ⟨j1, j2, j3, j4⟩ := hIs
          have j5 := hok.1
          have j6 := hok.2.2
          rw [last_ok hok] at hla
          have z1 : (x.id.t + x.c - 1 == 0) = false := beq_eq_false_iff_ne.2 (by omega)
          have z2 : (x.id.s == 0) = false := beq_eq_false_iff_ne.2 (by omega)
          clear hok hw hord
          go_wp2_with fail
          refine hla.mono ?_
          rintro e w1 ⟨rfl, hg1⟩
          unfold idV
          have HG1 := Lib.hid hg1
          clear hg1 hla
          go_wp2_with fail
          have hW5 := HG1.out.box HB1.out
          have hW6 := hW5.alloc (.cells #[.int .i64 (x.id.t + x.c - 1), .int .i64 x.id.s] 59)
          have hk6 : Kept (fun _ => False) wr (w1.alloc (.cells #[.int .i64 (x.id.t + x.c - 1), .int .i64 x.id.s] 59)) := (HK1.out.trans HG1.out.kept (fun _ _ h => h)).alloc _
          have q0 : _ = some (Value.int .i64 x.id.t) := hW6.cell' (i := 0) rfl
          have q1 : _ = some (Value.int .i64 x.id.s) := hW6.cell' (i := 1) rfl
          have HW6 := Lib.hid hW6
          have HK6 := Lib.hid hk6
          have hv6 := Blk.new w1 59 #[.int .i64 (x.id.t + x.c - 1), .int .i64 x.id.s]
          have HV6 := Lib.hid hv6
          clear hW5 hW6 hk6 hv6
          generalize w1.alloc (.cells #[.int .i64 (x.id.t + x.c - 1), .int .i64 x.id.s] 59) = W at *
          go_quiet (fail)
          have hkX : Kept (fun _ => False) wr (W.drewN nq) := HK6.out.drewN _
          have u0 : _ = some (Value.int .i64 x.id.t) := (HW6.out.drewN nq).cell' (i := 0) rfl
          have u1 : _ = some (Value.int .i64 x.id.s) := (HW6.out.drewN nq).cell' (i := 1) rfl
          have u2 : _ = some (Value.int .i64 (x.id.t + x.c - 1)) := (HV6.out.drewN nq).cell' (i := 0) rfl
          have hM2 := hM.keep hkX (fun h => h)
          obtain ⟨w7, hup0, hM7, hk7⟩ := run_updateK (P := Tryz.prog) (k := x.id.s) Tryz.underlying168 hM2 (.int .i64 (x.id.t + x.c - 1))
          have hup : (Instr.mapUpdate 168 (.map (some w.heap.size)) (.int .i64 x.id.s) (.int .i64 (x.id.t + x.c - 1))).run Tryz.prog (W.drewN nq) = .ok () w7 := hup0
          have REL : Hid (ChRel w w.heap.size L (.int .i64 ((0 : Nat) + 1 : Int)) w7) := ⟨0 + 1, _, by go_num, by omega, good_next X0.out GD.out HW.out, hM7, by rw [List.take_add_one, X0.out]; exact EN.out.snoc x, Kept.newer (hkw.trans hkX (fun _ _ h => h)) hk7 (Nat.le_refl _)⟩
          have hget := EN.out x.id.s
          have NF := Lib.hid (fun r hr ht => hform ((form_iff GD.out x).2 ⟨r, hr, ht⟩))
          clear hup0 hM7 hk7 hform
          cases hlo : lastOf (L.take (0)) x.id.s with
          | none =>
            rw [hlo] at hget
            have hlk : (Instr.lookup 168 (.map (some w.heap.size)) (.int .i64 x.id.s) true).run Tryz.prog (W.drewN nq) = .ok (.tuple #[.int .i64 0, .bool false]) (W.drewN nq) := run_lookupK_none_ok (K := intK) (k := x.id.s) Tryz.underlying168 hM2 hget (by kernel_rfl)
            clear hget hlo hM2
            go_wp2_with fail
            go_roundw
            case rel => exact REL.out
            case measure => simp [intOf]; omega
          | some r =>
            rw [hlo] at hget
            have hlk : (Instr.lookup 168 (.map (some w.heap.size)) (.int .i64 x.id.s) true).run Tryz.prog (W.drewN nq) = .ok (.tuple #[.int .i64 (r.id.t + r.c - 1), .bool true]) (W.drewN nq) := run_lookupK_ok (K := intK) (k := x.id.s) Tryz.underlying168 hM2 hget
            have rok := GD.out.ok r (lastOf_mem hlo).1
            have r1 := rok.2.2
            have r2 := rok.2.1
            have r3 := rok.1
            unfold ID.Is at r2
            obtain ⟨r4, r5, r6, r7⟩ := r2
            have hrt : r.id.t + r.c < x.id.t := Int.not_le.1 (NF.out r hlo)
            clear hget hlo hM2 rok
            go_wp2_with fail
            go_roundw
            case rel => exact REL.out
            case measure => simp [intOf]; omega
        · obtain ⟨m, rfl⟩ : ∃ m, n = m + 1 := ⟨n - 1, by omega⟩
          obtain ⟨p, hp'⟩ := get_of_lt (show m < L.length by omega)
          have hpl := hord p (take_last hp')
          obtain ⟨e0, e1, _⟩ := HC.out m p hp'
          have HW := Lib.hid hw
          have hIs := hok.2.1
          unfold ID.Is at hIs
          obtain ⟨j1, j2, j3, j4⟩ := hIs
          have j5 := hok.1
          have j6 := hok.2.2
          rw [last_ok hok] at hla
          have z1 : (x.id.t + x.c - 1 == 0) = false := beq_eq_false_iff_ne.2 (by omega)
          have z2 : (x.id.s == 0) = false := beq_eq_false_iff_ne.2 (by omega)
          have hcmp : ¬ x.id.cmp p.id ≤ 0 := Int.not_le.2 (cmp_gt.2 hpl)
          have hd : decide ((0 : Int) < (m : Int) + 1) = true := decide_eq_true (by omega)
          have hm0 : (0 : Int) ≤ m := by omega
          have hml : (m : Int) < L.length := by omega
          have hd2 : decide (x.id.cmp p.id ≤ 0) = false := by simpa using hcmp
          clear hok hw hpl hp' hcmp hord
          go_wp2_with fail
          refine hla.mono ?_
          rintro e w1 ⟨rfl, hg1⟩
          unfold idV
          have HG1 := Lib.hid hg1
          clear hg1 hla
          go_wp2_with fail
          have hW5 := HG1.out.box HB1.out
          have hW6 := hW5.alloc (.cells #[.int .i64 (x.id.t + x.c - 1), .int .i64 x.id.s] 59)
          have hk6 : Kept (fun _ => False) wr (w1.alloc (.cells #[.int .i64 (x.id.t + x.c - 1), .int .i64 x.id.s] 59)) := (HK1.out.trans HG1.out.kept (fun _ _ h => h)).alloc _
          have q0 : _ = some (Value.int .i64 x.id.t) := hW6.cell' (i := 0) rfl
          have q1 : _ = some (Value.int .i64 x.id.s) := hW6.cell' (i := 1) rfl
          have q2 := old_cell hk6 e0
          have q3 := old_cell hk6 e1
          have HW6 := Lib.hid hW6
          have HK6 := Lib.hid hk6
          have hv6 := Blk.new w1 59 #[.int .i64 (x.id.t + x.c - 1), .int .i64 x.id.s]
          have HV6 := Lib.hid hv6
          clear hW5 hW6 hk6 hv6
          generalize w1.alloc (.cells #[.int .i64 (x.id.t + x.c - 1), .int .i64 x.id.s] 59) = W at *
          have hw1 : IntKind.i64.wrap (m : Int) = (m : Int) := IntWalk.i64_in _ (by omega)
          go_region_held3 (fun w' => w'.cell? ⟨wr.heap.size, 0, none⟩ = some (.int .i64 x.id.t) ∧ w'.cell? ⟨wr.heap.size, 1, none⟩ = some (.int .i64 x.id.s) ∧ w'.cell? ⟨g, o + m * 3, none⟩ = some (.int .i64 p.id.t) ∧ w'.cell? ⟨g, o + m * 3 + 1, none⟩ = some (.int .i64 p.id.s)) (first | exact ⟨q0, q1, q2, q3⟩ | exact ⟨s0, s1, s2, s3⟩)
            (first
              | (go_simp; go_at_call 155; refine (compare_any x.id p.id _).mono ?_; rintro e w2 ⟨rfl, hg2⟩; have s0 : w2.cell? ⟨wr.heap.size, 0, none⟩ = some (.int .i64 x.id.t) := (hg2.box HW6.out).cell' rfl; have s1 : w2.cell? ⟨wr.heap.size, 1, none⟩ = some (.int .i64 x.id.s) := (hg2.box HW6.out).cell' rfl; have s2 := old_cell hg2.kept q2; have s3 := old_cell hg2.kept q3))
          clear hw1
          have hkX : Kept (fun _ => False) wr w2 := (HK6.out.drew).trans hg2.kept (fun _ _ h => h)
          have u0 : _ = some (Value.int .i64 x.id.t) := (hg2.box HW6.out).cell' (i := 0) rfl
          have u1 : _ = some (Value.int .i64 x.id.s) := (hg2.box HW6.out).cell' (i := 1) rfl
          have u2 : _ = some (Value.int .i64 (x.id.t + x.c - 1)) := (hg2.box HV6.out).cell' (i := 0) rfl
          have hM2 := hM.keep hkX (fun h => h)
          obtain ⟨w7, hup0, hM7, hk7⟩ := run_updateK (P := Tryz.prog) (k := x.id.s) Tryz.underlying168 hM2 (.int .i64 (x.id.t + x.c - 1))
          have hup : (Instr.mapUpdate 168 (.map (some w.heap.size)) (.int .i64 x.id.s) (.int .i64 (x.id.t + x.c - 1))).run Tryz.prog w2 = .ok () w7 := hup0
          have REL : Hid (ChRel w w.heap.size L (.int .i64 ((m + 1 : Nat) + 1 : Int)) w7) := ⟨m + 1 + 1, _, by go_num, by omega, good_next X0.out GD.out HW.out, hM7, by rw [List.take_add_one, X0.out]; exact EN.out.snoc x, Kept.newer (hkw.trans hkX (fun _ _ h => h)) hk7 (Nat.le_refl _)⟩
          have hget := EN.out x.id.s
          have NF := Lib.hid (fun r hr ht => hform ((form_iff GD.out x).2 ⟨r, hr, ht⟩))
          clear hup0 hM7 hk7 hform
          cases hlo : lastOf (L.take (m + 1)) x.id.s with
          | none =>
            rw [hlo] at hget
            have hlk : (Instr.lookup 168 (.map (some w.heap.size)) (.int .i64 x.id.s) true).run Tryz.prog w2 = .ok (.tuple #[.int .i64 0, .bool false]) w2 := run_lookupK_none_ok (K := intK) (k := x.id.s) Tryz.underlying168 hM2 hget (by kernel_rfl)
            clear hget hlo hM2
            go_wp2_with fail
            go_roundw
            case rel => exact REL.out
            case measure => simp [intOf]; omega
          | some r =>
            rw [hlo] at hget
            have hlk : (Instr.lookup 168 (.map (some w.heap.size)) (.int .i64 x.id.s) true).run Tryz.prog w2 = .ok (.tuple #[.int .i64 (r.id.t + r.c - 1), .bool true]) w2 := run_lookupK_ok (K := intK) (k := x.id.s) Tryz.underlying168 hM2 hget
            have rok := GD.out.ok r (lastOf_mem hlo).1
            have r1 := rok.2.2
            have r2 := rok.2.1
            have r3 := rok.1
            unfold ID.Is at r2
            obtain ⟨r4, r5, r6, r7⟩ := r2
            have hrt : r.id.t + r.c < x.id.t := Int.not_le.1 (NF.out r hlo)
            clear hget hlo hM2 rok
            go_wp2_with fail
            go_roundw
            case rel => exact REL.out
            case measure => simp [intOf]; omega
end Go.Proofs.YtjohljmpcblpjaaGreatDoor.St
