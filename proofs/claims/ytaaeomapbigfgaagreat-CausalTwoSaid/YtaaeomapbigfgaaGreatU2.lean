/- Words for slices of structs in memory, and for maps with any keys. They speak of no program of their own. Identifiers and runs of them: plain laws, no program in sight. cmp.Compare, cmp.Or; stamp.Compare, is, After; the document's. -/
import Derived.Test.YtaaeomapbigfgaaGreatU1
import Derived.Sort.Grow
import Derived.Laws.StructEq
import Derived.Test.YtaaeomapbigfgaaGreatChecked
import Derived.BigQuiet
import Derived.Deep.QuietTactic
import Derived.Deep.RegionHeld3
import Derived.WalkSpells
import Derived.Lib.Hide
import Derived.Lib.SliceRun
namespace Go.Proofs.YtaaeomapbigfgaaGreat
open Go.RowKit

/-! ### growth -/
theorem Kept.of_grow {w : World} (q : Nat) (os : Array Obj) : Kept (fun _ => False) w (Sort.grow (w.drewN q) os) :=
  ⟨rfl, rfl, rfl, by simp [Sort.grow, World.drewN], fun k hk _ => by simp [Sort.grow, World.drewN, Array.getElem?_append, hk]⟩
theorem grow_alloc (w : World) (o : Obj) : w.alloc o = Sort.grow w #[o] := by
  show ({ w with heap := w.heap.push o } : World) = { w with heap := w.heap ++ #[o] }
  rw [Array.push_eq_append]
/-- draws, and blocks behind -/
def Grew (w w' : World) : Prop := ∃ q os, w' = Sort.grow (w.drewN q) os
section
variable {w w' w'' : World}
theorem Grew.refl (w : World) : Grew w w := ⟨0, #[], by rw [Sort.grow_empty]; rfl⟩
theorem Grew.kept (h : Grew w w') : Kept (fun _ => False) w w' := by obtain ⟨q, os, rfl⟩ := h; exact Kept.of_grow q os
theorem Grew.box (h : Grew w w') {g : Nat} {t : TypeId} {cs : Array Value} (hb : Blk w g t cs) : Blk w' g t cs := h.kept.blk (fun h => h) hb
theorem Grew.size (h : Grew w w') : w.heap.size ≤ w'.heap.size := h.kept.size
theorem Grew.drewN (h : Grew w w') (n : Nat) : Grew w (w'.drewN n) := by
  obtain ⟨q, os, rfl⟩ := h
  exact ⟨q + n, os, by simp [Sort.grow, World.drewN, Nat.add_assoc]⟩
theorem Grew.drew (h : Grew w w') : Grew w w'.drew := h.drewN 1
theorem Grew.alloc (h : Grew w w') (o : Obj) : Grew w (w'.alloc o) := by
  obtain ⟨q, os, rfl⟩ := h
  exact ⟨q, os ++ #[o], by rw [grow_alloc, Sort.grow_grow]⟩
theorem Grew.setCell (h : Grew w w') {p : Addr} (hp : w.heap.size ≤ p.block) (u : Value) : Grew w (w'.setCell p u) := by
  obtain ⟨q, os, rfl⟩ := h
  have hh : ((Sort.grow (w.drewN q) os).setCell p u).heap = w.heap ++ ((Sort.grow (w.drewN q) os).setCell p u).heap.extract w.heap.size ((Sort.grow (w.drewN q) os).setCell p u).heap.size := by
    have hs : ((Sort.grow (w.drewN q) os).setCell p u).heap.size = w.heap.size + os.size := by simp [World.setCell, Sort.grow, World.drewN]
    apply Array.ext
    · simp [hs]
    · intro i h1 h2
      rw [Array.getElem_append]
      split
      · rename_i hi
        simp only [World.setCell, Sort.grow, World.drewN, Array.getElem_modify]
        rw [if_neg (by omega), Array.getElem_append_left hi]
      · rename_i hi
        rw [Array.getElem_extract]
        congr 1
        omega
  obtain ⟨os', hh⟩ : ∃ os', ((Sort.grow (w.drewN q) os).setCell p u).heap = w.heap ++ os' := ⟨_, hh⟩
  refine ⟨q, os', ?_⟩
  have e : (Sort.grow (w.drewN q) os).setCell p u = { w.drewN q with heap := ((Sort.grow (w.drewN q) os).setCell p u).heap } := rfl
  rw [e, hh]
  rfl
theorem Grew.trans (h : Grew w w') (k : Grew w' w'') : Grew w w'' := by
  obtain ⟨q, os, rfl⟩ := k
  obtain ⟨q2, os2, h2⟩ := h.drewN q
  exact ⟨q2, os2 ++ os, by rw [h2, Sort.grow_grow]⟩
end
end Go.Proofs.YtaaeomapbigfgaaGreat
namespace Go.Proofs.YtaaeomapbigfgaaGreat.St

/-- below 0, 0, above 0 -/
def cmpI (a b : Int) : Int := if a < b then -1 else if b < a then 1 else 0
/-- the first that is not 0 -/
def orL : List Int → Int
  | [] => 0
  | x :: r => if x = 0 then orL r else x

@[ext] structure ID where
  t : Int
  s : Int
deriving DecidableEq, Inhabited
@[ext] structure Run where
  id : ID
  c : Int
deriving DecidableEq, Inhabited
def ID.zero : ID := ⟨0, 0⟩
def ID.cmp (a b : ID) : Int := orL [cmpI a.t b.t, cmpI a.s b.s]
def ID.lt (a b : ID) : Prop := a.t < b.t ∨ a.t = b.t ∧ a.s < b.s
def ID.Is (a : ID) : Prop := 1 ≤ a.t ∧ a.t ≤ 2147483647 ∧ 1 ≤ a.s ∧ a.s ≤ 16
instance (a : ID) : Decidable a.Is := by unfold ID.Is; infer_instance
instance (a b : ID) : Decidable (a.lt b) := by unfold ID.lt; infer_instance
def isB (a : ID) : Bool := decide a.Is
def ID.after (a : ID) (n : Int) : ID := if a.Is ∧ 0 ≤ n ∧ n ≤ 2147483647 - a.t then ⟨a.t + n, a.s⟩ else ID.zero

theorem ID.lt_irrefl (a : ID) : ¬ a.lt a := by unfold ID.lt; omega
theorem ID.lt_trans {a b c : ID} (h : a.lt b) (h' : b.lt c) : a.lt c := by unfold ID.lt at *; omega
theorem ID.lt_or (a b : ID) : a.lt b ∨ a = b ∨ b.lt a := by
  unfold ID.lt
  rw [ID.ext_iff]
  omega
theorem cmp_eq (a b : ID) : a.cmp b = if a.lt b then -1 else if b.lt a then 1 else 0 := by
  unfold ID.cmp orL cmpI orL orL ID.lt
  by_cases h1 : a.t < b.t
  · simp [h1]
  · by_cases h2 : b.t < a.t
    · have : ¬ (a.t = b.t ∧ a.s < b.s) := by omega
      simp [h1, h2, this]
    · have h3 : a.t = b.t := by omega
      by_cases h4 : a.s < b.s
      · simp [h3, h4]
      · by_cases h5 : b.s < a.s
        · simp [h3, h4, h5]
        · simp [h3, h4, h5]
theorem cmp_lt {a b : ID} : a.cmp b < 0 ↔ a.lt b := by
  rw [cmp_eq]
  by_cases h1 : a.lt b
  · simp [h1]
  · by_cases h2 : b.lt a <;> simp [h1, h2]
theorem cmp_gt {a b : ID} : 0 < a.cmp b ↔ b.lt a := by
  rw [cmp_eq]
  by_cases h1 : a.lt b
  · have : ¬ b.lt a := fun h => a.lt_irrefl (ID.lt_trans h1 h)
    simp [h1, this]
  · by_cases h2 : b.lt a <;> simp [h1, h2]
theorem cmp_zero {a b : ID} : a.cmp b = 0 ↔ a = b := by
  rw [cmp_eq]
  constructor
  · intro h
    rcases a.lt_or b with h1 | h1 | h1
    · simp [h1] at h
    · exact h1
    · have : ¬ a.lt b := fun h => a.lt_irrefl (ID.lt_trans h h1)
      simp [h1, this] at h
  · rintro rfl
    simp [ID.lt_irrefl]
theorem cmp_swap (a b : ID) : b.cmp a = - a.cmp b := by
  rw [cmp_eq, cmp_eq]
  rcases a.lt_or b with h | h | h
  · have : ¬ b.lt a := fun h' => a.lt_irrefl (ID.lt_trans h h')
    simp [h, this]
  · subst h; simp [ID.lt_irrefl]
  · have : ¬ a.lt b := fun h' => a.lt_irrefl (ID.lt_trans h' h)
    simp [h, this]
theorem cmp_bd (a b : ID) : -1 ≤ a.cmp b ∧ a.cmp b ≤ 1 := by
  rw [cmp_eq]; split <;> (try split) <;> omega

/-! ### rising lists -/
def Rising (l : List ID) : Prop := l.Pairwise ID.lt
/-- S is the identifiers among ids, rising, each once -/
def SetOf (ids S : List ID) : Prop := Rising S ∧ ∀ x, x ∈ S ↔ x ∈ ids ∧ x.Is
theorem rising_unique : ∀ {S T : List ID}, Rising S → Rising T → (∀ x, x ∈ S ↔ x ∈ T) → S = T
  | [], [], _, _, _ => rfl
  | [], y :: T, _, _, h => absurd ((h y).2 (List.mem_cons_self ..)) (by simp)
  | x :: S, [], _, _, h => absurd ((h x).1 (List.mem_cons_self ..)) (by simp)
  | x :: S, y :: T, hS, hT, h => by
    obtain ⟨s1, s2⟩ := List.pairwise_cons.1 hS
    obtain ⟨t1, t2⟩ := List.pairwise_cons.1 hT
    have e : x = y := by
      rcases List.mem_cons.1 ((h x).1 (List.mem_cons_self ..)) with e | e
      · exact e
      · rcases List.mem_cons.1 ((h y).2 (List.mem_cons_self ..)) with e' | e'
        · exact e'.symm
        · exact absurd (ID.lt_trans (s1 y e') (t1 x e)) (ID.lt_irrefl _)
    subst e
    have hST : ∀ z, z ∈ S ↔ z ∈ T := fun z => by
      constructor
      · intro hz
        rcases List.mem_cons.1 ((h z).1 (List.mem_cons_of_mem _ hz)) with e | e
        · subst e; exact absurd (s1 z hz) (ID.lt_irrefl _)
        · exact e
      · intro hz
        rcases List.mem_cons.1 ((h z).2 (List.mem_cons_of_mem _ hz)) with e | e
        · subst e; exact absurd (t1 z hz) (ID.lt_irrefl _)
        · exact e
    rw [rising_unique s2 t2 hST]
theorem SetOf.unique {ids S T : List ID} (h : SetOf ids S) (h' : SetOf ids T) : S = T := rising_unique h.1 h'.1 fun x => (h.2 x).trans (h'.2 x).symm

/-! ### runs -/
/-- the identifier that would follow a run -/
def Run.next (r : Run) : ID := ⟨r.id.t + r.c, r.id.s⟩
def Run.fin (r : Run) : ID := ⟨r.id.t + r.c - 1, r.id.s⟩
def Run.up (r : Run) : Run := ⟨r.id, r.c + 1⟩
/-- the place of the first run that an identifier would follow -/
def growAt (out : List Run) (x : ID) : Option Nat := out.findIdx? fun r => decide (r.next = x)
def packStep (out : List Run) (x : ID) : List Run :=
  match growAt out x with
  | some k => out.modify k Run.up
  | none => out ++ [⟨x, 1⟩]
def packL (S : List ID) : List Run := S.foldl packStep []
/-- what packStep keeps, all that is to come being above -/
structure PackOk (out : List Run) (P : ID → Prop) : Prop where
  nodup : (out.map Run.next).Nodup
  fin : ∀ r ∈ out, P r.fin
  pos : ∀ r ∈ out, 1 ≤ r.c
theorem growAt_some {out : List Run} {x : ID} {k : Nat} (h : growAt out x = some k) : ∃ r, out[k]? = some r ∧ r.next = x := by
  unfold growAt at h
  rw [List.findIdx?_eq_some_iff_getElem] at h
  obtain ⟨hk, h1, _⟩ := h
  exact ⟨out[k], by simp [hk], by simpa using h1⟩
theorem growAt_none {out : List Run} {x : ID} (h : growAt out x = none) : ∀ r ∈ out, r.next ≠ x := by
  unfold growAt at h
  rw [List.findIdx?_eq_none_iff] at h
  intro r hr
  simpa using h r hr
theorem growAt_of {out : List Run} {x : ID} {k : Nat} {r : Run} (hn : (out.map Run.next).Nodup) (hk : out[k]? = some r) (hr : r.next = x) : growAt out x = some k := by
  cases h : growAt out x with
  | none => exact absurd hr (growAt_none h r (List.mem_of_getElem? hk))
  | some j =>
    obtain ⟨q, hj, hq⟩ := growAt_some h
    have hj' : j < out.length := (List.getElem?_eq_some_iff.1 hj).1
    have : j = k := (List.getElem?_inj (by simpa using hj') hn).1 (by simp [List.getElem?_map, hj, hk, hq, hr])
    rw [this]
theorem packStep_ok {out : List Run} {P Q : ID → Prop} {x : ID} (h : PackOk out P) (hx : ∀ y, P y → y ≠ x) (hPQ : ∀ y, P y → Q y) (hQ : Q x) : PackOk (packStep out x) Q := by
  have hnx : ∀ r ∈ out, r.next ≠ ⟨x.t + 1, x.s⟩ := fun r hr e => by
    have h1 := hx _ (h.fin r hr)
    apply h1
    have e1 := congrArg ID.t e
    have e2 := congrArg ID.s e
    simp only [Run.next] at e1 e2
    rw [ID.ext_iff]
    simp only [Run.fin]
    exact ⟨by omega, e2⟩
  unfold packStep
  cases hg : growAt out x with
  | none =>
    refine ⟨?_, fun r hr => ?_, fun r hr => ?_⟩
    · simp only [List.map_append, List.map_cons, List.map_nil]
      rw [List.nodup_append]
      refine ⟨h.nodup, by simp, fun a ha b hb => ?_⟩
      obtain ⟨r, hr, rfl⟩ := List.mem_map.1 ha
      simp only [List.mem_cons, List.not_mem_nil, or_false] at hb
      subst hb
      exact hnx r hr
    · rcases List.mem_append.1 hr with hr | hr
      · exact hPQ _ (h.fin r hr)
      · simp only [List.mem_cons, List.not_mem_nil, or_false] at hr
        subst hr
        have : Run.fin ⟨x, 1⟩ = x := by rw [ID.ext_iff]; exact ⟨by simp only [Run.fin]; omega, rfl⟩
        rw [this]; exact hQ
    · rcases List.mem_append.1 hr with hr | hr
      · exact h.pos r hr
      · simp only [List.mem_cons, List.not_mem_nil, or_false] at hr
        subst hr
        exact Int.le_refl _
  | some k =>
    obtain ⟨r, hk, hr⟩ := growAt_some hg
    have hkl : k < out.length := (List.getElem?_eq_some_iff.1 hk).1
    have hup : r.up.next = ⟨x.t + 1, x.s⟩ := by
      have e1 := congrArg ID.t hr
      have e2 := congrArg ID.s hr
      simp only [Run.next] at e1 e2
      rw [ID.ext_iff]
      simp only [Run.next, Run.up]
      exact ⟨by omega, e2⟩
    have hmod : out.modify k Run.up = out.set k r.up := by
      apply List.ext_getElem?
      intro i
      rw [List.getElem?_modify, List.getElem?_set]
      by_cases hi : k = i
      · subst hi
        have e : out[k] = r := Option.some.inj ((List.getElem?_eq_getElem hkl).symm.trans hk)
        simp [hkl, e]
      · simp [hi]
    show PackOk (out.modify k Run.up) Q
    rw [hmod]
    have hmem : ∀ q ∈ out.set k r.up, q = r.up ∨ q ∈ out := fun q hq => (List.mem_or_eq_of_mem_set hq).symm
    refine ⟨?_, fun q hq => ?_, fun q hq => ?_⟩
    · rw [List.map_set, hup]
      unfold List.Nodup
      rw [List.pairwise_iff_getElem]
      intro i j hi hj hij e
      simp only [List.length_set, List.length_map] at hi hj
      rw [List.getElem_set, List.getElem_set] at e
      by_cases h1 : k = i
      · have h2 : k ≠ j := by omega
        rw [if_pos h1, if_neg h2, List.getElem_map] at e
        exact hnx _ (List.getElem_mem (by omega)) e.symm
      · by_cases h2 : k = j
        · rw [if_neg h1, if_pos h2, List.getElem_map] at e
          exact hnx _ (List.getElem_mem (by omega)) e
        · rw [if_neg h1, if_neg h2] at e
          exact (List.pairwise_iff_getElem.1 h.nodup) i j (by simpa using hi) (by simpa using hj) hij e
    · rcases hmem q hq with rfl | hq
      · have : r.up.fin = x := by
          have e1 := congrArg ID.t hr
          have e2 := congrArg ID.s hr
          simp only [Run.next] at e1 e2
          rw [ID.ext_iff]
          simp only [Run.fin, Run.up]
          exact ⟨by omega, e2⟩
        rw [this]; exact hQ
      · exact hPQ _ (h.fin q hq)
    · rcases hmem q hq with rfl | hq
      · have := h.pos r (List.mem_of_getElem? hk)
        simp only [Run.up]; omega
      · exact h.pos q hq
theorem packStep_len (out : List Run) (x : ID) : (packStep out x).length ≤ out.length + 1 := by
  unfold packStep; split <;> simp
theorem get_of_lt {α : Type} {l : List α} {i : Nat} (h : i < l.length) : ∃ x, l[i]? = some x := ⟨_, List.getElem?_eq_getElem h⟩
/-- numbers that an int holds -/
def I64 (n : Int) : Prop := -9223372036854775808 ≤ n ∧ n ≤ 9223372036854775807
def Run.In (r : Run) : Prop := I64 r.id.t ∧ I64 r.id.s ∧ I64 r.c
end Go.Proofs.YtaaeomapbigfgaaGreat.St
namespace Go.Proofs.YtaaeomapbigfgaaGreat.St
open Go.RowKit

theorem nan_any (x : Int) (w : World) : Calls Tryz.prog 72 #[.int .i64 x] w fun e w' => e = .returned (.bool false) ∧ w = w' := by
  go_enter Tryz.func72, Tryz.ntmps72
  go_wp2
  go_ret
  exact ⟨by simp, rfl⟩
theorem ccmp_any (x y : Int) (w : World) : Calls Tryz.prog 50 #[.int .i64 x, .int .i64 y] w fun e w' => e = .returned (.int .i64 (cmpI x y)) ∧ w = w' := by
  by_cases h : x < y
  · have e : cmpI x y = -1 := by unfold cmpI; rw [if_pos h]
    rw [e]
    go_enter Tryz.func50, Tryz.ntmps50
    go_wp2_with (go_at_call 72; refine (nan_any _ _).mono ?_; rintro e w' ⟨rfl, rfl⟩)
    go_ret
    exact ⟨rfl, rfl⟩
  · by_cases h2 : y < x
    · have e : cmpI x y = 1 := by unfold cmpI; rw [if_neg h, if_pos h2]
      rw [e]
      go_enter Tryz.func50, Tryz.ntmps50
      go_wp2_with (go_at_call 72; refine (nan_any _ _).mono ?_; rintro e w' ⟨rfl, rfl⟩)
      go_ret
      exact ⟨rfl, rfl⟩
    · have e : cmpI x y = 0 := by unfold cmpI; rw [if_neg h, if_neg h2]
      rw [e]
      go_enter Tryz.func50, Tryz.ntmps50
      go_wp2_with (go_at_call 72; refine (nan_any _ _).mono ?_; rintro e w' ⟨rfl, rfl⟩)
      go_ret
      exact ⟨rfl, rfl⟩
theorem or2 (g : Nat) (x y : Int) (w : World) (h0 : w.cell? ⟨g, 0, none⟩ = some (.int .i64 x)) (h1 : w.cell? ⟨g, 1, none⟩ = some (.int .i64 y)) :
    Calls Tryz.prog 49 #[.slice (some ⟨g, 0, none⟩) 2 2] w fun e w' => e = .returned (.int .i64 (orL [x, y])) ∧ w = w' := by
  go_enter Tryz.func49, Tryz.ntmps49
  go_wp2
  go_loop [8] (fun i => ∃ k : Nat, k ≤ 2 ∧ i = .int .i64 k ∧ orL [x, y] = orL ([x, y].drop k)) (fun i => 2 - (intOf i).toNat)
  case atStart => exact ⟨0, by omega, rfl, rfl⟩
  case round =>
    obtain ⟨k, hk, rfl, he⟩ := hrel
    have E := Lib.hid he
    clear he
    rcases (show k = 0 ∨ k = 1 ∨ k = 2 by omega) with rfl | rfl | rfl
    · by_cases hx : x = 0
      · subst hx
        go_wp2
        go_round
        case rel => exact ⟨1, by omega, rfl, rfl⟩
        case measure => simp [intOf]
      · have hxb : (x != 0) = true := by simpa using hx
        go_wp2
        go_ret
        exact ⟨by simp [orL, hx], rfl⟩
    · by_cases hy : y = 0
      · subst hy
        go_wp2
        go_round
        case rel => exact ⟨2, by omega, rfl, E.out.trans (by simp [orL])⟩
        case measure => simp [intOf]
      · have hyb : (y != 0) = true := by simpa using hy
        go_wp2
        go_ret
        exact ⟨by rw [E.out]; simp [orL, hy], rfl⟩
    · go_wp2
      go_ret
      exact ⟨by rw [E.out]; rfl, rfl⟩

def idV (a : ID) : Value := .agg #[.int .i64 a.t, .int .i64 a.s]
def runV (r : Run) : Value := .agg #[.int .i64 r.id.t, .int .i64 r.id.s, .int .i64 r.c]
theorem compare_any (a b : ID) (w : World) : Calls Tryz.prog 140 #[idV a, idV b] w fun e w' => e = .returned (.int .i64 (a.cmp b)) ∧ Grew w w' := by
  obtain ⟨at_, as_⟩ := a
  obtain ⟨bt, bs⟩ := b
  show Calls _ _ #[.agg #[.int .i64 at_, .int .i64 as_], .agg #[.int .i64 bt, .int .i64 bs]] _ _
  unfold ID.cmp
  have b1 := Blk.alloc (Blk.new w 39 #[.int .i64 at_, .int .i64 as_]) (.cells #[.int .i64 bt, .int .i64 bs] 39)
  have b2 := Blk.new (w.alloc (.cells #[.int .i64 at_, .int .i64 as_] 39)) 39 #[.int .i64 bt, .int .i64 bs]
  have c1 : _ = some (Value.int .i64 at_) := b1.cell' (i := 0) rfl
  have c2 : _ = some (Value.int .i64 as_) := b1.cell' (i := 1) rfl
  have c3 : _ = some (Value.int .i64 bt) := b2.cell' (i := 0) rfl
  have c4 : _ = some (Value.int .i64 bs) := b2.cell' (i := 1) rfl
  have hg := Grew.alloc (Grew.alloc (Grew.refl w) (.cells #[.int .i64 at_, .int .i64 as_] 39)) (.cells #[.int .i64 bt, .int .i64 bs] 39)
  rw [World.size_alloc] at c3 c4
  clear b1 b2
  go_enter Tryz.func140, Tryz.ntmps140
  go_wp2_with fail
  obtain ⟨W, hW, hz⟩ : ∃ W, ((w.alloc (.cells #[.int .i64 at_, .int .i64 as_] 39)).alloc (.cells #[.int .i64 bt, .int .i64 bs] 39)) = W ∧ W.heap.size = w.heap.size + 2 := ⟨_, rfl, by simp⟩
  rw [hW] at c1 c2 c3 c4 hg ⊢
  clear hW
  have Z := Lib.hid hz
  clear hz
  go_region_held3 (fun w' => w'.cell? ⟨w.heap.size, 0, none⟩ = some (.int .i64 at_) ∧ w'.cell? ⟨w.heap.size, 1, none⟩ = some (.int .i64 as_) ∧ w'.cell? ⟨w.heap.size + 1, 0, none⟩ = some (.int .i64 bt) ∧ w'.cell? ⟨w.heap.size + 1, 1, none⟩ = some (.int .i64 bs)) (first | exact ⟨c1, c2, c3, c4⟩ | exact ⟨Lib.cell?_alloc_some _ c1, Lib.cell?_alloc_some _ c2, Lib.cell?_alloc_some _ c3, Lib.cell?_alloc_some _ c4⟩)
    (first
      | (go_simp; go_at_call 50; refine (ccmp_any _ _ _).mono ?_; rintro e w' ⟨rfl, rfl⟩)
      | (go_simp; go_at_call 49; refine (or2 W.heap.size (cmpI at_ bt) (cmpI as_ bs) (W.alloc (.cells #[.int .i64 (cmpI at_ bt), .int .i64 (cmpI as_ bs)] 3)).drew ((Blk.new W 3 #[.int .i64 (cmpI at_ bt), .int .i64 (cmpI as_ bs)]).cell' (i := 0) rfl) ((Blk.new W 3 #[.int .i64 (cmpI at_ bt), .int .i64 (cmpI as_ bs)]).cell' (i := 1) rfl)).mono ?_; rintro e w' ⟨rfl, rfl⟩))
  go_wp2
  go_ret
  exact ⟨rfl, (hg.alloc _).drew⟩

/-! ### is, IsID, After -/
theorem is_core (t s : Int) (w : World) : Calls Tryz.prog 132 #[.agg #[.int .i64 t, .int .i64 s]] w fun e w' => e = .returned (.bool (isB ⟨t, s⟩)) ∧ Grew w w' := by
  by_cases h1 : 1 ≤ t
  · by_cases h2 : t ≤ 2147483647
    · by_cases h3 : 1 ≤ s
      · by_cases h4 : s ≤ 16
        · have e : isB ⟨t, s⟩ = true := by simp [isB, ID.Is, h1, h2, h3, h4]
          rw [e]
          go_enter Tryz.func132, Tryz.ntmps132
          go_wp2
          go_ret
          exact ⟨rfl, (Grew.refl w).alloc _⟩
        · have e : isB ⟨t, s⟩ = false := by simp [isB, ID.Is, h4]
          rw [e]
          go_enter Tryz.func132, Tryz.ntmps132
          go_wp2
          go_ret
          exact ⟨rfl, (Grew.refl w).alloc _⟩
      · have e : isB ⟨t, s⟩ = false := by simp [isB, ID.Is, h3]
        rw [e]
        go_enter Tryz.func132, Tryz.ntmps132
        go_wp2
        go_ret
        exact ⟨rfl, (Grew.refl w).alloc _⟩
    · have e : isB ⟨t, s⟩ = false := by simp [isB, ID.Is, h2]
      rw [e]
      go_enter Tryz.func132, Tryz.ntmps132
      go_wp2
      go_ret
      exact ⟨rfl, (Grew.refl w).alloc _⟩
  · have e : isB ⟨t, s⟩ = false := by simp [isB, ID.Is, h1]
    rw [e]
    go_enter Tryz.func132, Tryz.ntmps132
    go_wp2
    go_ret
    exact ⟨rfl, (Grew.refl w).alloc _⟩
theorem is_any (a : ID) (w : World) : Calls Tryz.prog 132 #[idV a] w fun e w' => e = .returned (.bool (isB a)) ∧ Grew w w' := is_core a.t a.s w
theorem isid_core (t s : Int) (w : World) : Calls Tryz.prog 93 #[.agg #[.int .i64 t, .int .i64 s]] w fun e w' => e = .returned (.bool (isB ⟨t, s⟩)) ∧ Grew w w' := by
  by_cases h1 : 1 ≤ t
  · skip
    by_cases h2 : t ≤ 2147483647
    · skip
      by_cases h3 : 1 ≤ s
      · skip
        by_cases h4 : s ≤ 16
        · skip
          have e : isB ⟨t, s⟩ = true := by simp [isB, ID.Is, h1, h2, h3, h4]
          rw [e]
          go_enter Tryz.func93, Tryz.ntmps93
          go_wp2
          go_ret
          exact ⟨rfl, (Grew.refl w).alloc _⟩
        · skip
          have e : isB ⟨t, s⟩ = false := by simp [isB, ID.Is, h4]
          rw [e]
          go_enter Tryz.func93, Tryz.ntmps93
          go_wp2
          go_ret
          exact ⟨rfl, (Grew.refl w).alloc _⟩
      · skip
        have e : isB ⟨t, s⟩ = false := by simp [isB, ID.Is, h3]
        rw [e]
        go_enter Tryz.func93, Tryz.ntmps93
        go_wp2
        go_ret
        exact ⟨rfl, (Grew.refl w).alloc _⟩
    · skip
      have e : isB ⟨t, s⟩ = false := by simp [isB, ID.Is, h2]
      rw [e]
      go_enter Tryz.func93, Tryz.ntmps93
      go_wp2
      go_ret
      exact ⟨rfl, (Grew.refl w).alloc _⟩
  · skip
    have e : isB ⟨t, s⟩ = false := by simp [isB, ID.Is, h1]
    rw [e]
    go_enter Tryz.func93, Tryz.ntmps93
    go_wp2
    go_ret
    exact ⟨rfl, (Grew.refl w).alloc _⟩
theorem isid_any (a : ID) (w : World) : Calls Tryz.prog 93 #[idV a] w fun e w' => e = .returned (.bool (isB a)) ∧ Grew w w' := isid_core a.t a.s w

theorem isB_true {a : ID} (h : isB a = true) : a.Is := by simpa [isB] using h
theorem after_core (t s n : Int) (hn : -9223372036854775808 ≤ n) (hn2 : n ≤ 9223372036854775807) (w : World) : Calls Tryz.prog 130 #[.agg #[.int .i64 t, .int .i64 s], .int .i64 n] w fun e w' => e = .returned (idV (ID.after ⟨t, s⟩ n)) ∧ Grew w w' := by
  have hg := Grew.alloc (Grew.alloc (Grew.refl w) (.cells #[.int .i64 t, .int .i64 s] 39)) (.cells #[.int .i64 0, .int .i64 0] 39)
  have hb0 := Blk.alloc (Blk.new w 39 #[.int .i64 t, .int .i64 s]) (.cells #[.int .i64 0, .int .i64 0] 39)
  have hb1 := Blk.new (w.alloc (.cells #[.int .i64 t, .int .i64 s] 39)) 39 #[.int .i64 0, .int .i64 0]
  rw [World.size_alloc] at hb1
  have hc := is_core t s ((w.alloc (.cells #[.int .i64 t, .int .i64 s] 39)).alloc (.cells #[.int .i64 0, .int .i64 0] 39))
  have H0 := Lib.hid hb0
  have H1 := Lib.hid hb1
  clear hb0 hb1
  cases hb : isB ⟨t, s⟩
  · have e : ID.after ⟨t, s⟩ n = ID.zero := by unfold ID.after; rw [if_neg]; intro h; simp [isB, h.1] at hb
    rw [e]
    rw [hb] at hc
    clear hb e
    go_enter Tryz.func130, Tryz.ntmps130
    go_wp2_with fail
    refine hc.mono ?_
    rintro e w' ⟨rfl, hg2⟩
    have hb1 := hg2.box H1.out
    have c0 : _ = some (Value.int .i64 0) := hb1.cell' (i := 0) rfl
    have c1 : _ = some (Value.int .i64 0) := hb1.cell' (i := 1) rfl
    have f0 := hb1.frozen 0
    have f1 := hb1.frozen 1
    have G := Lib.hid (hg.trans hg2)
    clear hg hg2 hb1 hc
    go_wp2_with fail
    refine bodyPost_ret (v := .agg #[.int .i64 0, .int .i64 0]) (by simp [results, Tryz.results130, go_sem, c0, c1]) rfl ⟨rfl, (G.out.setCell (by simp) _).setCell (by simp) _⟩
  · have hI := isB_true hb
    unfold ID.Is at hI
    obtain ⟨i1, i2, i3, i4⟩ := hI
    simp only at i1 i2 i3 i4
    have hIs := Lib.hid (isB_true hb)
    rw [hb] at hc
    clear hb
    by_cases hx : 0 ≤ n ∧ n ≤ 2147483647 - t
    · obtain ⟨x1, x2⟩ := hx
      have e : ID.after ⟨t, s⟩ n = ⟨t + n, s⟩ := by unfold ID.after; rw [if_pos ⟨hIs.out, x1, x2⟩]
      rw [e]
      clear e
      go_enter Tryz.func130, Tryz.ntmps130
      go_wp2_with fail
      refine hc.mono ?_
      rintro e w' ⟨rfl, hg2⟩
      have hb0 := hg2.box H0.out
      have hb1 := hg2.box H1.out
      have d0 : _ = some (Value.int .i64 t) := hb0.cell' (i := 0) rfl
      have d1 : _ = some (Value.int .i64 s) := hb0.cell' (i := 1) rfl
      have e0 := hb0.frozen 0
      have e1 := hb0.frozen 1
      have c0 : _ = some (Value.int .i64 0) := hb1.cell' (i := 0) rfl
      have c1 : _ = some (Value.int .i64 0) := hb1.cell' (i := 1) rfl
      have f0 := hb1.frozen 0
      have f1 := hb1.frozen 1
      have G := Lib.hid (hg.trans hg2)
      clear hg hg2 hb1 hb0 hc
      go_wp2_with fail
      refine bodyPost_ret (v := .agg #[.int .i64 (t + n), .int .i64 s]) (by simp [results, Tryz.results130, go_sem, c0, c1]) rfl ⟨rfl, ((G.out.setCell (by simp) _).setCell (by simp) _).setCell (by simp) _⟩
    · have e : ID.after ⟨t, s⟩ n = ID.zero := by unfold ID.after; rw [if_neg]; intro h; exact hx ⟨h.2.1, h.2.2⟩
      rw [e]
      clear e
      rcases (show n < 0 ∨ (0 ≤ n ∧ 2147483647 - t < n) by omega) with x1 | ⟨x1, x2⟩
      all_goals
        go_enter Tryz.func130, Tryz.ntmps130
        go_wp2_with fail
        refine hc.mono ?_
        rintro e w' ⟨rfl, hg2⟩
        have hb0 := hg2.box H0.out
        have hb1 := hg2.box H1.out
        have d0 : _ = some (Value.int .i64 t) := hb0.cell' (i := 0) rfl
        have c0 : _ = some (Value.int .i64 0) := hb1.cell' (i := 0) rfl
        have c1 : _ = some (Value.int .i64 0) := hb1.cell' (i := 1) rfl
        have f0 := hb1.frozen 0
        have f1 := hb1.frozen 1
        have G := Lib.hid (hg.trans hg2)
        clear hg hg2 hb1 hb0 hc
        go_wp2_with fail
        refine bodyPost_ret (v := .agg #[.int .i64 0, .int .i64 0]) (by simp [results, Tryz.results130, go_sem, c0, c1]) rfl ⟨rfl, (G.out.setCell (by simp) _).setCell (by simp) _⟩
theorem after_any (a : ID) (n : Int) (hn : -9223372036854775808 ≤ n) (hn2 : n ≤ 9223372036854775807) (w : World) : Calls Tryz.prog 130 #[idV a, .int .i64 n] w fun e w' => e = .returned (idV (a.after n)) ∧ Grew w w' := after_core a.t a.s n hn hn2 w
end Go.Proofs.YtaaeomapbigfgaaGreat.St
