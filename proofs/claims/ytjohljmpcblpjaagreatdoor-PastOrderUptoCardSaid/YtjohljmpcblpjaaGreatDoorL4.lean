/- cmp.Compare, cmp.Or; stamp.Compare, is, After; the document's. Slices whose elements are several cells: read (SlAt), and owned (OwnAt). -/
import Derived.Test.YtjohljmpcblpjaaGreatDoorChecked
import Derived.Test.YtjohljmpcblpjaaGreatDoorL2
import Derived.Test.YtjohljmpcblpjaaGreatDoorL1
import Derived.BigQuiet
import Derived.Deep.QuietTactic
import Derived.Deep.RegionHeld3
import Derived.WalkSpells
import Derived.Lib.Hide
import Derived.Lib.SliceRun
import Derived.Laws.AppendOwn
import Derived.OwnWalk
namespace Go.Proofs.YtjohljmpcblpjaaGreatDoor.St
open Go.RowKit

theorem nan_any (x : Int) (w : World) : Calls Tryz.prog 190 #[.int .i64 x] w fun e w' => e = .returned (.bool false) ∧ w = w' := by
  go_enter Tryz.func190, Tryz.ntmps190
  go_wp2
  go_ret
  exact ⟨by simp, rfl⟩
theorem ccmp_any (x y : Int) (w : World) : Calls Tryz.prog 182 #[.int .i64 x, .int .i64 y] w fun e w' => e = .returned (.int .i64 (cmpI x y)) ∧ w = w' := by
  by_cases h : x < y
  · have e : cmpI x y = -1 := by unfold cmpI; rw [if_pos h]
    rw [e]
    go_enter Tryz.func182, Tryz.ntmps182
    go_wp2_with (go_at_call 190; refine (nan_any _ _).mono ?_; rintro e w' ⟨rfl, rfl⟩)
    go_ret
    exact ⟨rfl, rfl⟩
  · by_cases h2 : y < x
    · have e : cmpI x y = 1 := by unfold cmpI; rw [if_neg h, if_pos h2]
      rw [e]
      go_enter Tryz.func182, Tryz.ntmps182
      go_wp2_with (go_at_call 190; refine (nan_any _ _).mono ?_; rintro e w' ⟨rfl, rfl⟩)
      go_ret
      exact ⟨rfl, rfl⟩
    · have e : cmpI x y = 0 := by unfold cmpI; rw [if_neg h, if_neg h2]
      rw [e]
      go_enter Tryz.func182, Tryz.ntmps182
      go_wp2_with (go_at_call 190; refine (nan_any _ _).mono ?_; rintro e w' ⟨rfl, rfl⟩)
      go_ret
      exact ⟨rfl, rfl⟩
theorem or2 (g : Nat) (x y : Int) (w : World) (h0 : w.cell? ⟨g, 0, none⟩ = some (.int .i64 x)) (h1 : w.cell? ⟨g, 1, none⟩ = some (.int .i64 y)) :
    Calls Tryz.prog 181 #[.slice (some ⟨g, 0, none⟩) 2 2] w fun e w' => e = .returned (.int .i64 (orL [x, y])) ∧ w = w' := by
  go_enter Tryz.func181, Tryz.ntmps181
  go_wp2
  go_loop [8] (fun i => ∃ k : Nat, k ≤ 2 ∧ i = .int .i64 k ∧ orL [x, y] = orL ([x, y].drop k)) (fun i => 2 - (intOf i).toNat)
  case atStart => exact ⟨0, by omega, rfl, rfl⟩
  case round =>
    obtain ⟨k, hk, rfl, he⟩ := hrel
    have E := Lib.hid he
    clear he
    rcases (show k = 0 ∨ k = 1 ∨ k = 2 by omega) with rfl | rfl | rfl
    · by_cases hx : x = 0
      · subst hx
        go_wp2
        go_round
        case rel => exact ⟨1, by omega, rfl, rfl⟩
        case measure => simp [intOf]
      · have hxb : (x != 0) = true := by simpa using hx
        go_wp2
        go_ret
        exact ⟨by simp [orL, hx], rfl⟩
    · by_cases hy : y = 0
      · subst hy
        go_wp2
        go_round
        case rel => exact ⟨2, by omega, rfl, E.out.trans (by simp [orL])⟩
        case measure => simp [intOf]
      · have hyb : (y != 0) = true := by simpa using hy
        go_wp2
        go_ret
        exact ⟨by rw [E.out]; simp [orL, hy], rfl⟩
    · go_wp2
      go_ret
      exact ⟨by rw [E.out]; rfl, rfl⟩

def idV (a : ID) : Value := .agg #[.int .i64 a.t, .int .i64 a.s]
def runV (r : Run) : Value := .agg #[.int .i64 r.id.t, .int .i64 r.id.s, .int .i64 r.c]
theorem compare_any (a b : ID) (w : World) : Calls Tryz.prog 155 #[idV a, idV b] w fun e w' => e = .returned (.int .i64 (a.cmp b)) ∧ Grew w w' := by
  obtain ⟨at_, as_⟩ := a
  obtain ⟨bt, bs⟩ := b
  show Calls _ _ #[.agg #[.int .i64 at_, .int .i64 as_], .agg #[.int .i64 bt, .int .i64 bs]] _ _
  unfold ID.cmp
  have b1 := Blk.alloc (Blk.new w 59 #[.int .i64 at_, .int .i64 as_]) (.cells #[.int .i64 bt, .int .i64 bs] 59)
  have b2 := Blk.new (w.alloc (.cells #[.int .i64 at_, .int .i64 as_] 59)) 59 #[.int .i64 bt, .int .i64 bs]
  have c1 : _ = some (Value.int .i64 at_) := b1.cell' (i := 0) rfl
  have c2 : _ = some (Value.int .i64 as_) := b1.cell' (i := 1) rfl
  have c3 : _ = some (Value.int .i64 bt) := b2.cell' (i := 0) rfl
  have c4 : _ = some (Value.int .i64 bs) := b2.cell' (i := 1) rfl
  have hg := Grew.alloc (Grew.alloc (Grew.refl w) (.cells #[.int .i64 at_, .int .i64 as_] 59)) (.cells #[.int .i64 bt, .int .i64 bs] 59)
  rw [World.size_alloc] at c3 c4
  clear b1 b2
  go_enter Tryz.func155, Tryz.ntmps155
  go_wp2_with fail
  obtain ⟨W, hW, hz⟩ : ∃ W, ((w.alloc (.cells #[.int .i64 at_, .int .i64 as_] 59)).alloc (.cells #[.int .i64 bt, .int .i64 bs] 59)) = W ∧ W.heap.size = w.heap.size + 2 := ⟨_, rfl, by simp⟩
  rw [hW] at c1 c2 c3 c4 hg ⊢
  clear hW
  have Z := Lib.hid hz
  clear hz
  go_region_held3 (fun w' => w'.cell? ⟨w.heap.size, 0, none⟩ = some (.int .i64 at_) ∧ w'.cell? ⟨w.heap.size, 1, none⟩ = some (.int .i64 as_) ∧ w'.cell? ⟨w.heap.size + 1, 0, none⟩ = some (.int .i64 bt) ∧ w'.cell? ⟨w.heap.size + 1, 1, none⟩ = some (.int .i64 bs)) (first | exact ⟨c1, c2, c3, c4⟩ | exact ⟨Lib.cell?_alloc_some _ c1, Lib.cell?_alloc_some _ c2, Lib.cell?_alloc_some _ c3, Lib.cell?_alloc_some _ c4⟩)
    (first
      | (go_simp; go_at_call 182; refine (ccmp_any _ _ _).mono ?_; rintro e w' ⟨rfl, rfl⟩)
      | (go_simp; go_at_call 181; refine (or2 W.heap.size (cmpI at_ bt) (cmpI as_ bs) (W.alloc (.cells #[.int .i64 (cmpI at_ bt), .int .i64 (cmpI as_ bs)] 3)).drew ((Blk.new W 3 #[.int .i64 (cmpI at_ bt), .int .i64 (cmpI as_ bs)]).cell' (i := 0) rfl) ((Blk.new W 3 #[.int .i64 (cmpI at_ bt), .int .i64 (cmpI as_ bs)]).cell' (i := 1) rfl)).mono ?_; rintro e w' ⟨rfl, rfl⟩))
  go_wp2
  go_ret
  exact ⟨rfl, (hg.alloc _).drew⟩

/-! ### is, IsID, After -/
theorem is_core (t s : Int) (w : World) : Calls Tryz.prog 156 #[.agg #[.int .i64 t, .int .i64 s]] w fun e w' => e = .returned (.bool (isB ⟨t, s⟩)) ∧ Grew w w' := by
  by_cases h1 : 1 ≤ t
  · by_cases h2 : t ≤ 2147483647
    · by_cases h3 : 1 ≤ s
      · by_cases h4 : s ≤ 16
        · have e : isB ⟨t, s⟩ = true := by simp [isB, ID.Is, h1, h2, h3, h4]
          rw [e]
          go_enter Tryz.func156, Tryz.ntmps156
          go_wp2
          go_ret
          exact ⟨rfl, (Grew.refl w).alloc _⟩
        · have e : isB ⟨t, s⟩ = false := by simp [isB, ID.Is, h4]
          rw [e]
          go_enter Tryz.func156, Tryz.ntmps156
          go_wp2
          go_ret
          exact ⟨rfl, (Grew.refl w).alloc _⟩
      · have e : isB ⟨t, s⟩ = false := by simp [isB, ID.Is, h3]
        rw [e]
        go_enter Tryz.func156, Tryz.ntmps156
        go_wp2
        go_ret
        exact ⟨rfl, (Grew.refl w).alloc _⟩
    · have e : isB ⟨t, s⟩ = false := by simp [isB, ID.Is, h2]
      rw [e]
      go_enter Tryz.func156, Tryz.ntmps156
      go_wp2
      go_ret
      exact ⟨rfl, (Grew.refl w).alloc _⟩
  · have e : isB ⟨t, s⟩ = false := by simp [isB, ID.Is, h1]
    rw [e]
    go_enter Tryz.func156, Tryz.ntmps156
    go_wp2
    go_ret
    exact ⟨rfl, (Grew.refl w).alloc _⟩
theorem is_any (a : ID) (w : World) : Calls Tryz.prog 156 #[idV a] w fun e w' => e = .returned (.bool (isB a)) ∧ Grew w w' := is_core a.t a.s w
theorem isid_core (t s : Int) (w : World) : Calls Tryz.prog 122 #[.agg #[.int .i64 t, .int .i64 s]] w fun e w' => e = .returned (.bool (isB ⟨t, s⟩)) ∧ Grew w w' := by
  by_cases h1 : 1 ≤ t
  · skip
    by_cases h2 : t ≤ 2147483647
    · skip
      by_cases h3 : 1 ≤ s
      · skip
        by_cases h4 : s ≤ 16
        · skip
          have e : isB ⟨t, s⟩ = true := by simp [isB, ID.Is, h1, h2, h3, h4]
          rw [e]
          go_enter Tryz.func122, Tryz.ntmps122
          go_wp2
          go_ret
          exact ⟨rfl, (Grew.refl w).alloc _⟩
        · skip
          have e : isB ⟨t, s⟩ = false := by simp [isB, ID.Is, h4]
          rw [e]
          go_enter Tryz.func122, Tryz.ntmps122
          go_wp2
          go_ret
          exact ⟨rfl, (Grew.refl w).alloc _⟩
      · skip
        have e : isB ⟨t, s⟩ = false := by simp [isB, ID.Is, h3]
        rw [e]
        go_enter Tryz.func122, Tryz.ntmps122
        go_wp2
        go_ret
        exact ⟨rfl, (Grew.refl w).alloc _⟩
    · skip
      have e : isB ⟨t, s⟩ = false := by simp [isB, ID.Is, h2]
      rw [e]
      go_enter Tryz.func122, Tryz.ntmps122
      go_wp2
      go_ret
      exact ⟨rfl, (Grew.refl w).alloc _⟩
  · skip
    have e : isB ⟨t, s⟩ = false := by simp [isB, ID.Is, h1]
    rw [e]
    go_enter Tryz.func122, Tryz.ntmps122
    go_wp2
    go_ret
    exact ⟨rfl, (Grew.refl w).alloc _⟩
theorem isid_any (a : ID) (w : World) : Calls Tryz.prog 122 #[idV a] w fun e w' => e = .returned (.bool (isB a)) ∧ Grew w w' := isid_core a.t a.s w

theorem isB_true {a : ID} (h : isB a = true) : a.Is := by simpa [isB] using h
theorem after_core (t s n : Int) (hn : -9223372036854775808 ≤ n) (hn2 : n ≤ 9223372036854775807) (w : World) : Calls Tryz.prog 129 #[.agg #[.int .i64 t, .int .i64 s], .int .i64 n] w fun e w' => e = .returned (idV (ID.after ⟨t, s⟩ n)) ∧ Grew w w' := by
  have hg := Grew.alloc (Grew.alloc (Grew.refl w) (.cells #[.int .i64 t, .int .i64 s] 59)) (.cells #[.int .i64 0, .int .i64 0] 59)
  have hb0 := Blk.alloc (Blk.new w 59 #[.int .i64 t, .int .i64 s]) (.cells #[.int .i64 0, .int .i64 0] 59)
  have hb1 := Blk.new (w.alloc (.cells #[.int .i64 t, .int .i64 s] 59)) 59 #[.int .i64 0, .int .i64 0]
  rw [World.size_alloc] at hb1
  have hc := is_core t s ((w.alloc (.cells #[.int .i64 t, .int .i64 s] 59)).alloc (.cells #[.int .i64 0, .int .i64 0] 59))
  have H0 := Lib.hid hb0
  have H1 := Lib.hid hb1
  clear hb0 hb1
  cases hb : isB ⟨t, s⟩
  · have e : ID.after ⟨t, s⟩ n = ID.zero := by unfold ID.after; rw [if_neg]; intro h; simp [isB, h.1] at hb
    rw [e]
    rw [hb] at hc
    clear hb e
    go_enter Tryz.func129, Tryz.ntmps129
    go_wp2_with fail
    refine hc.mono ?_
    rintro e w' ⟨rfl, hg2⟩
    have hb1 := hg2.box H1.out
    have c0 : _ = some (Value.int .i64 0) := hb1.cell' (i := 0) rfl
    have c1 : _ = some (Value.int .i64 0) := hb1.cell' (i := 1) rfl
    have f0 := hb1.frozen 0
    have f1 := hb1.frozen 1
    have G := Lib.hid (hg.trans hg2)
    clear hg hg2 hb1 hc
    go_wp2_with fail
    refine bodyPost_ret (v := .agg #[.int .i64 0, .int .i64 0]) (by simp [results, Tryz.results129, go_sem, c0, c1]) rfl ⟨rfl, (G.out.setCell (by simp) _).setCell (by simp) _⟩
  · have hI := isB_true hb
    unfold ID.Is at hI
    obtain ⟨i1, i2, i3, i4⟩ := hI
    simp only at i1 i2 i3 i4
    have hIs := Lib.hid (isB_true hb)
    rw [hb] at hc
    clear hb
    by_cases hx : 0 ≤ n ∧ n ≤ 2147483647 - t
    · obtain ⟨x1, x2⟩ := hx
      have e : ID.after ⟨t, s⟩ n = ⟨t + n, s⟩ := by unfold ID.after; rw [if_pos ⟨hIs.out, x1, x2⟩]
      rw [e]
      clear e
      go_enter Tryz.func129, Tryz.ntmps129
      go_wp2_with fail
      refine hc.mono ?_
      rintro e w' ⟨rfl, hg2⟩
      have hb0 := hg2.box H0.out
      have hb1 := hg2.box H1.out
      have d0 : _ = some (Value.int .i64 t) := hb0.cell' (i := 0) rfl
      have d1 : _ = some (Value.int .i64 s) := hb0.cell' (i := 1) rfl
      have e0 := hb0.frozen 0
      have e1 := hb0.frozen 1
      have c0 : _ = some (Value.int .i64 0) := hb1.cell' (i := 0) rfl
      have c1 : _ = some (Value.int .i64 0) := hb1.cell' (i := 1) rfl
      have f0 := hb1.frozen 0
      have f1 := hb1.frozen 1
      have G := Lib.hid (hg.trans hg2)
      clear hg hg2 hb1 hb0 hc
      go_wp2_with fail
      refine bodyPost_ret (v := .agg #[.int .i64 (t + n), .int .i64 s]) (by simp [results, Tryz.results129, go_sem, c0, c1]) rfl ⟨rfl, ((G.out.setCell (by simp) _).setCell (by simp) _).setCell (by simp) _⟩
    · have e : ID.after ⟨t, s⟩ n = ID.zero := by unfold ID.after; rw [if_neg]; intro h; exact hx ⟨h.2.1, h.2.2⟩
      rw [e]
      clear e
      rcases (show n < 0 ∨ (0 ≤ n ∧ 2147483647 - t < n) by omega) with x1 | ⟨x1, x2⟩
      all_goals
        go_enter Tryz.func129, Tryz.ntmps129
        go_wp2_with fail
        refine hc.mono ?_
        rintro e w' ⟨rfl, hg2⟩
        have hb0 := hg2.box H0.out
        have hb1 := hg2.box H1.out
        have d0 : _ = some (Value.int .i64 t) := hb0.cell' (i := 0) rfl
        have c0 : _ = some (Value.int .i64 0) := hb1.cell' (i := 0) rfl
        have c1 : _ = some (Value.int .i64 0) := hb1.cell' (i := 1) rfl
        have f0 := hb1.frozen 0
        have f1 := hb1.frozen 1
        have G := Lib.hid (hg.trans hg2)
        clear hg hg2 hb1 hb0 hc
        go_wp2_with fail
        refine bodyPost_ret (v := .agg #[.int .i64 0, .int .i64 0]) (by simp [results, Tryz.results129, go_sem, c0, c1]) rfl ⟨rfl, (G.out.setCell (by simp) _).setCell (by simp) _⟩
theorem after_any (a : ID) (n : Int) (hn : -9223372036854775808 ≤ n) (hn2 : n ≤ 9223372036854775807) (w : World) : Calls Tryz.prog 129 #[idV a, .int .i64 n] w fun e w' => e = .returned (idV (a.after n)) ∧ Grew w w' := after_core a.t a.s n hn hn2 w
end Go.Proofs.YtjohljmpcblpjaaGreatDoor.St
namespace Go.Proofs.YtjohljmpcblpjaaGreatDoor
open Go.RowKit

/-- how an element stands in cells -/
structure Enc (α : Type) where
  k : Nat
  enc : α → List Value
  len : ∀ x, (enc x).length = k
  pos : 0 < k
  one : ∀ x, ∀ u ∈ enc x, u.oneCell' = true
section
variable {α : Type} (E : Enc α)
def Enc.flat (L : List α) : List Value := L.flatMap E.enc
theorem Enc.flat_len : ∀ L : List α, (E.flat L).length = L.length * E.k
  | [] => by simp [Enc.flat]
  | x :: L => by
    have := Enc.flat_len L
    unfold Enc.flat at this ⊢
    rw [List.flatMap_cons, List.length_append, E.len, this, List.length_cons, Nat.add_mul, Nat.one_mul, Nat.add_comm]
theorem Enc.flat_append (L M : List α) : E.flat (L ++ M) = E.flat L ++ E.flat M := by simp [Enc.flat]
theorem Enc.flat_one (x : α) : E.flat [x] = E.enc x := by simp [Enc.flat]
theorem Enc.flat_get : ∀ {L : List α} {i j : Nat} {x : α} {u : Value}, L[i]? = some x → (E.enc x)[j]? = some u → (E.flat L)[i * E.k + j]? = some u
  | [], i, j, x, u, h, _ => by simp at h
  | y :: L, 0, j, x, u, h, hu => by
    simp at h
    subst h
    have hj : j < (E.enc y).length := (List.getElem?_eq_some_iff.1 hu).1
    unfold Enc.flat
    rw [List.flatMap_cons, Nat.zero_mul, Nat.zero_add, List.getElem?_append_left hj]
    exact hu
  | y :: L, i + 1, j, x, u, h, hu => by
    have ih := Enc.flat_get (L := L) (i := i) (j := j) (x := x) (u := u) (by simpa using h) hu
    unfold Enc.flat at ih ⊢
    rw [List.flatMap_cons, List.getElem?_append_right (by rw [E.len, Nat.add_mul]; omega), E.len, show (i + 1) * E.k + j - E.k = i * E.k + j by rw [Nat.add_mul]; omega]
    exact ih
theorem Enc.flat_inv : ∀ {L : List α} {m : Nat} {u : Value}, (E.flat L)[m]? = some u → ∃ i j x, m = i * E.k + j ∧ L[i]? = some x ∧ (E.enc x)[j]? = some u
  | [], m, u, h => by simp [Enc.flat] at h
  | y :: L, m, u, h => by
    unfold Enc.flat at h
    rw [List.flatMap_cons] at h
    by_cases hm : m < (E.enc y).length
    · rw [List.getElem?_append_left hm] at h
      exact ⟨0, m, y, by omega, by simp, h⟩
    · rw [List.getElem?_append_right (by omega), E.len] at h
      rw [E.len] at hm
      obtain ⟨i, j, x, h1, h2, h3⟩ := Enc.flat_inv (L := L) (m := m - E.k) (u := u) h
      exact ⟨i + 1, j, x, by rw [Nat.add_mul]; omega, by simpa using h2, h3⟩
theorem Enc.flat_one_cell (L : List α) : ∀ u ∈ E.flat L, u.oneCell' = true := by
  intro u hu
  unfold Enc.flat at hu
  obtain ⟨x, _, hx⟩ := List.mem_flatMap.1 hu
  exact E.one x u hx
/-- cells hold the elements, one behind the other -/
def Enc.Row (cs : Array Value) (D : List α) : Prop := ∀ (i : Nat) (x : α), D[i]? = some x → ∀ (j : Nat) (u : Value), (E.enc x)[j]? = some u → cs[i * E.k + j]? = some u
variable {E}
theorem Enc.Row.take {cs : Array Value} {D : List α} (h : E.Row cs D) (n : Nat) : E.Row cs (D.take n) := fun i x hx j u hu => by
  rw [List.getElem?_take] at hx
  split at hx
  · exact h i x hx j u hu
  · cases hx
theorem Enc.Row.flat {cs : Array Value} {D : List α} (h : E.Row cs D) : cs.toList.take (D.length * E.k) = E.flat D := by
  apply List.ext_getElem?
  intro m
  rw [List.getElem?_take]
  split
  · rename_i hm
    have hml : m < (E.flat D).length := by rw [E.flat_len]; exact hm
    obtain ⟨u, hu⟩ : ∃ u, (E.flat D)[m]? = some u := ⟨_, List.getElem?_eq_getElem hml⟩
    obtain ⟨i, j, x, h1, h2, h3⟩ := E.flat_inv hu
    rw [hu, Array.getElem?_toList, h1]
    exact h i x h2 j u h3
  · rename_i hm
    rw [List.getElem?_eq_none]
    rw [E.flat_len]; omega
theorem Enc.Row.of_flat {cs : Array Value} {D : List α} (h : cs.toList.take (D.length * E.k) = E.flat D) : E.Row cs D := fun i x hx j u hu => by
  have h1 := E.flat_get hx hu
  rw [← h, List.getElem?_take] at h1
  split at h1
  · simpa using h1
  · cases h1

theorem owns_sl {w : World} {base : Nat} {t : TypeId} {k n : Nat} {v : Value} {xs : List Value} (h : w.ownsRow base t k v n xs) : ∃ a c, v = .slice a n c := by
  rcases h.2 with ⟨rfl, rfl⟩ | ⟨g, cap, cur, rfl, _⟩
  · exact ⟨_, _, rfl⟩
  · exact ⟨_, _, rfl⟩
theorem owns_keep {S : Nat → Prop} {w w' : World} {base n size : Nat} {e : TypeId} {v : Value} {xs : List Value} (h : w.ownsRow base e size v n xs) (hk : Kept S w w') (hs : ∀ b, v.ownBlock = some b → ¬ S b) : w'.ownsRow base e size v n xs := by
  refine ⟨h.1, ?_⟩
  rcases h.2 with h' | ⟨g, cap, cur, rfl, hb, hg, r⟩
  · exact .inl h'
  · exact .inr ⟨g, cap, cur, rfl, hb, hk.blk (t := e) (cs := cur) (hs g rfl) hg, r⟩

/-! ### read -/
variable (E) in
/-- v reads as L -/
def SlAt (w : World) (v : Value) (L : List α) : Prop :=
  (v = .slice none 0 0 ∧ L = []) ∨ ∃ x c, v = .slice (some x) L.length c ∧ L.length ≤ c ∧ c ≤ maxLen ∧ (L ≠ [] → x.spot = none) ∧
    ∀ (i : Nat) (y : α), L[i]? = some y → ∀ (j : Nat) (u : Value), (E.enc y)[j]? = some u → w.cell? ⟨x.block, x.off + (i * E.k + j), none⟩ = some u
variable {w w' : World} {v : Value} {L : List α}
theorem SlAt.sl (h : SlAt E w v L) : ∃ a c, v = .slice a L.length c ∧ L.length ≤ c ∧ c ≤ maxLen := by
  rcases h with ⟨rfl, rfl⟩ | ⟨x, c, rfl, h1, h2, _⟩
  · exact ⟨none, 0, rfl, Nat.le_refl _, Nat.zero_le _⟩
  · exact ⟨_, _, rfl, h1, h2⟩
theorem SlAt.le (h : SlAt E w v L) : L.length ≤ maxLen := by obtain ⟨a, c, _, h1, h2⟩ := h.sl; omega
theorem SlAt.one (h : SlAt E w v L) (hn : 0 < L.length) : ∃ g o c, v = .slice (some ⟨g, o, none⟩) L.length c ∧ L.length ≤ c ∧ c ≤ maxLen ∧ g < w.heap.size ∧
    ∀ (i : Nat) (y : α), L[i]? = some y → ∀ (j : Nat) (u : Value), (E.enc y)[j]? = some u → w.cell? ⟨g, o + (i * E.k + j), none⟩ = some u := by
  rcases h with ⟨rfl, rfl⟩ | ⟨x, c, rfl, h1, h2, h3, h4⟩
  · simp at hn
  · obtain ⟨g, o, s⟩ := x
    obtain rfl : s = none := h3 (by intro e; rw [e] at hn; simp at hn)
    refine ⟨g, o, c, rfl, h1, h2, ?_, h4⟩
    obtain ⟨y, r, rfl⟩ : ∃ y r, L = y :: r := by cases L with | nil => simp at hn | cons y r => exact ⟨y, r, rfl⟩
    have hl : 0 < (E.enc y).length := by rw [E.len]; exact E.pos
    exact World.block_lt_of_cell? w _ (h4 0 y rfl 0 _ (List.getElem?_eq_getElem hl))
theorem SlAt.keep {S : Nat → Prop} (h : SlAt E w v L) (hk : Kept S w w') (hs : ∀ b, v.ownBlock = some b → b < w.heap.size → ¬ S b) : SlAt E w' v L := by
  rcases h with h | ⟨x, c, rfl, h1, h2, h3, h4⟩
  · exact .inl h
  · refine .inr ⟨x, c, rfl, h1, h2, h3, fun i y hy j u hu => ?_⟩
    have hc := h4 i y hy j u hu
    have hlt : x.block < w.heap.size := World.block_lt_of_cell? w ⟨x.block, x.off + (i * E.k + j), none⟩ hc
    exact (World.cell?_of_block (a := ⟨x.block, x.off + (i * E.k + j), none⟩) (hk.block x.block hlt (hs x.block rfl hlt))).trans hc
/-- what was there at w0 stands, where nothing of w0 is touched -/
theorem SlAt.far {w0 : World} {S : Nat → Prop} (h0 : SlAt E w0 v L) (h : SlAt E w v L) (hk : Kept S w w') (hs : ∀ b, b < w0.heap.size → ¬ S b) : SlAt E w' v L := by
  by_cases hl : L = []
  · subst hl
    rcases h with h | ⟨x, c, rfl, h1, h2, _, _⟩
    · exact .inl h
    · exact .inr ⟨x, c, rfl, h1, h2, fun e => absurd rfl e, fun i y hy => by simp at hy⟩
  · obtain ⟨g, o, c, rfl, _, _, hg, _⟩ := h0.one (List.length_pos_iff.2 hl)
    exact h.keep hk fun b hb _ => by cases hb; exact hs g hg
theorem SlAt.kept (h : SlAt E w v L) (hk : Kept (fun _ => False) w w') : SlAt E w' v L := h.keep hk fun _ _ _ h => h
theorem SlAt.news (h : SlAt E w v L) (hn : 0 < L.length) : ∃ g o c, v = .slice (some ⟨g, o, none⟩) L.length c ∧ ∀ j u, (E.flat L)[j]? = some u → w.cell? ⟨g, o + j, none⟩ = some u := by
  obtain ⟨g, o, c, rfl, _, _, _, h4⟩ := h.one hn
  refine ⟨g, o, c, rfl, fun m u hu => ?_⟩
  obtain ⟨i, j, x, rfl, h2, h3⟩ := E.flat_inv hu
  exact h4 i x h2 j u h3

theorem SlAt.at_ {x : Addr} {n c : Nat} (h : SlAt E w (.slice (some x) n c) L) : n = L.length ∧ ∀ j u, (E.flat L)[j]? = some u → w.cell? (x.add j) = some u := by
  rcases h with ⟨h, _⟩ | ⟨y, d, h, h1, h2, h3, h4⟩
  · cases h
  · injection h with e1 e2 e3
    injection e1 with e1
    subst e1
    refine ⟨e2, fun m u hu => ?_⟩
    obtain ⟨i, j, z, rfl, g2, g3⟩ := E.flat_inv hu
    have hs := h3 (by rintro rfl; simp at g2)
    obtain ⟨g, o, s⟩ := x
    obtain rfl : s = none := hs
    rw [Addr.add_lit]
    exact h4 i z g2 j u g3

theorem SlAt.none_ {n c : Nat} (h : SlAt E w (.slice none n c) L) : L = [] ∧ n = 0 ∧ c = 0 := by
  rcases h with ⟨h, e⟩ | ⟨y, d, h, _⟩
  · injection h with e1 e2 e3
    exact ⟨e, e2, e3⟩
  · cases h

/-! ### owned -/
variable (E) in
/-- block g is a row of room for cap elements, the first of which are D -/
def OwnAt (w : World) (t : TypeId) (g cap : Nat) (D : List α) : Prop := ∃ cs, Blk w g t cs ∧ cs.size = cap * E.k ∧ D.length ≤ cap ∧ cap ≤ maxLen ∧ E.Row cs D
variable {t : TypeId} {g cap : Nat} {D : List α}
theorem OwnAt.lt (h : OwnAt E w t g cap D) : g < w.heap.size := by obtain ⟨cs, h1, _⟩ := h; exact h1.lt
theorem OwnAt.le (h : OwnAt E w t g cap D) : D.length ≤ cap ∧ cap ≤ maxLen := by obtain ⟨cs, _, _, h1, h2, _⟩ := h; exact ⟨h1, h2⟩
theorem OwnAt.frozen (h : OwnAt E w t g cap D) (i : Nat) : w.frozen? ⟨g, i, none⟩ = false := by obtain ⟨cs, h1, _⟩ := h; exact h1.frozen i
theorem OwnAt.cell (h : OwnAt E w t g cap D) {i j : Nat} {x : α} {u : Value} (hx : D[i]? = some x) (hu : (E.enc x)[j]? = some u) : w.cell? ⟨g, i * E.k + j, none⟩ = some u := by
  obtain ⟨cs, h1, _, _, _, h2⟩ := h
  exact h1.cell' (h2 i x hx j u hu)
theorem OwnAt.keep {S : Nat → Prop} (h : OwnAt E w t g cap D) (hk : Kept S w w') (hs : ¬ S g) : OwnAt E w' t g cap D := by
  obtain ⟨cs, h1, h2⟩ := h
  exact ⟨cs, hk.blk hs h1, h2⟩
theorem OwnAt.take (h : OwnAt E w t g cap D) (n : Nat) : OwnAt E w t g cap (D.take n) := by
  obtain ⟨cs, h1, h2, h3, h4, h5⟩ := h
  exact ⟨cs, h1, h2, by rw [List.length_take]; omega, h4, h5.take n⟩
theorem OwnAt.slAt (h : OwnAt E w t g cap D) : SlAt E w (.slice (some ⟨g, 0, none⟩) D.length cap) D :=
  .inr ⟨⟨g, 0, none⟩, cap, rfl, h.le.1, h.le.2, fun _ => rfl, fun i y hy j u hu => by rw [Nat.zero_add]; exact h.cell hy hu⟩
theorem OwnAt.owns (h : OwnAt E w t g cap D) {base : Nat} (hb : base ≤ g) : w.ownsRow base t E.k (.slice (some ⟨g, 0, none⟩) D.length cap) D.length (E.flat D) := by
  obtain ⟨cs, h1, h2, h3, h4, h5⟩ := h
  exact ⟨E.flat_len D, .inr ⟨g, cap, cs, rfl, hb, h1, h3, h4, h2, h5.flat⟩⟩
theorem own_of {base n : Nat} (h : w.ownsRow base t E.k v n (E.flat D)) : D.length = n ∧ ((v = .slice none 0 0 ∧ D = []) ∨ ∃ g cap, v = .slice (some ⟨g, 0, none⟩) n cap ∧ base ≤ g ∧ OwnAt E w t g cap D) := by
  have hl : D.length = n := by
    have := h.1
    rw [E.flat_len] at this
    exact Nat.eq_of_mul_eq_mul_right E.pos this
  refine ⟨hl, ?_⟩
  rcases h.2 with ⟨rfl, rfl⟩ | ⟨g, cap, cur, rfl, hb, hg, h1, h2, h3, h4⟩
  · exact .inl ⟨rfl, List.length_eq_zero_iff.1 hl⟩
  · exact .inr ⟨g, cap, rfl, hb, cur, hg, h3, by omega, h2, Enc.Row.of_flat (by rw [hl]; exact h4)⟩
theorem owns_slAt {base n : Nat} (h : w.ownsRow base t E.k v n (E.flat D)) : SlAt E w v D := by
  obtain ⟨hl, hv⟩ := own_of h
  rcases hv with h | ⟨g, cap, rfl, _, ho⟩
  · exact .inl h
  · subst hl; exact ho.slAt
theorem OwnAt.set2 (h : OwnAt E w t g cap D) {i : Nat} (hi : i < D.length) {x : α} {a b : Value} (hk : E.k = 2) (hx : E.enc x = [a, b]) :
    OwnAt E ((w.setCell ⟨g, i * 2, none⟩ a).setCell ⟨g, i * 2 + 1, none⟩ b) t g cap (D.set i x) := by
  obtain ⟨cs, h1, h2, h3, h4, h5⟩ := h
  refine ⟨_, (h1.set_ (i * 2) a).set_ (i * 2 + 1) b, by simp [h2], by simpa using h3, h4, fun m y hy j u hu => ?_⟩
  rw [hk] at h2 ⊢
  have hj : j < 2 := by rw [← hk, ← E.len y]; exact (List.getElem?_eq_some_iff.1 hu).1
  have hsz : i * 2 + 1 < cs.size := by omega
  by_cases hm : i = m
  · subst hm
    simp [hi] at hy
    subst hy
    rw [hx] at hu
    rcases (show j = 0 ∨ j = 1 by omega) with rfl | rfl
    · simp at hu
      subst hu
      rw [Array.getElem?_setIfInBounds_ne (by omega), Nat.add_zero, Array.getElem?_setIfInBounds_self_of_lt (by omega)]
    · simp at hu
      subst hu
      rw [Array.getElem?_setIfInBounds_self_of_lt (by simpa using hsz)]
  · rw [List.getElem?_set_ne hm] at hy
    have := h5 m y hy j u hu
    rw [hk] at this
    rw [Array.getElem?_setIfInBounds_ne (by omega), Array.getElem?_setIfInBounds_ne (by omega)]
    exact this
theorem OwnAt.set1of3 (h : OwnAt E w t g cap D) {i m : Nat} {x y : α} (hi : D[i]? = some x) {b : Value} (hm : m < E.k) (hy : E.enc y = (E.enc x).set m b) :
    OwnAt E (w.setCell ⟨g, i * E.k + m, none⟩ b) t g cap (D.set i y) := by
  obtain ⟨cs, h1, h2, h3, h4, h5⟩ := h
  have hil : i < D.length := (List.getElem?_eq_some_iff.1 hi).1
  refine ⟨_, h1.set_ (i * E.k + m) b, by simp [h2], by simpa using h3, h4, fun n z hz j u hu => ?_⟩
  have hj : j < E.k := by rw [← E.len z]; exact (List.getElem?_eq_some_iff.1 hu).1
  have hsz : i * E.k + m < cs.size := by
    rw [h2]
    have := Nat.mul_le_mul_right E.k (show i + 1 ≤ cap by omega)
    rw [Nat.add_mul] at this
    omega
  by_cases hn : i = n
  · subst hn
    simp [hil] at hz
    subst hz
    rw [hy, List.getElem?_set] at hu
    by_cases hjm : m = j
    · subst hjm
      simp [E.len, hm] at hu
      subst hu
      rw [Array.getElem?_setIfInBounds_self_of_lt hsz]
    · rw [if_neg hjm] at hu
      rw [Array.getElem?_setIfInBounds_ne (by omega)]
      exact h5 i x hi j u hu
  · rw [List.getElem?_set_ne hn] at hz
    have hne : i * E.k + m ≠ n * E.k + j := by
      intro e
      have e1 : (i * E.k + m) / E.k = i := by rw [Nat.mul_comm, Nat.mul_add_div E.pos, Nat.div_eq_of_lt hm, Nat.add_zero]
      have e2 : (n * E.k + j) / E.k = n := by rw [Nat.mul_comm, Nat.mul_add_div E.pos, Nat.div_eq_of_lt hj, Nat.add_zero]
      rw [e, e2] at e1
      exact hn e1.symm
    rw [Array.getElem?_setIfInBounds_ne hne]
    exact h5 n z hz j u hu
end
end Go.Proofs.YtjohljmpcblpjaaGreatDoor
