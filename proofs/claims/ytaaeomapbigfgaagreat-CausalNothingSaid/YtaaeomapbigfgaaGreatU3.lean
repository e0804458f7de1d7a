/- Slices whose elements are several cells: read (SlAt), and owned (OwnAt). Vectors: plain laws, no program in sight. Arrays in blocks of their own: loaded whole, stored whole. They speak of no program of their own. vector.of: what a list of Dots says, as a row of 17 numbers. -/
import Derived.Test.YtaaeomapbigfgaaGreatU2
import Derived.Laws.AppendOwn
import Derived.OwnWalk
import Derived.Lib.SliceRun
import Derived.Laws.Rows
import Derived.Laws.Tables
import Derived.Deep.WholeRow
namespace Go.Proofs.YtaaeomapbigfgaaGreat
open Go.RowKit

/-- how an element stands in cells -/
structure Enc (α : Type) where
  k : Nat
  enc : α → List Value
  len : ∀ x, (enc x).length = k
  pos : 0 < k
  one : ∀ x, ∀ u ∈ enc x, u.oneCell' = true
section
variable {α : Type} (E : Enc α)
def Enc.flat (L : List α) : List Value := L.flatMap E.enc
theorem Enc.flat_len : ∀ L : List α, (E.flat L).length = L.length * E.k
  | [] => by simp [Enc.flat]
  | x :: L => by
    have := Enc.flat_len L
    unfold Enc.flat at this ⊢
    rw [List.flatMap_cons, List.length_append, E.len, this, List.length_cons, Nat.add_mul, Nat.one_mul, Nat.add_comm]
theorem Enc.flat_append (L M : List α) : E.flat (L ++ M) = E.flat L ++ E.flat M := by simp [Enc.flat]
theorem Enc.flat_one (x : α) : E.flat [x] = E.enc x := by simp [Enc.flat]
theorem Enc.flat_get : ∀ {L : List α} {i j : Nat} {x : α} {u : Value}, L[i]? = some x → (E.enc x)[j]? = some u → (E.flat L)[i * E.k + j]? = some u
  | [], i, j, x, u, h, _ => by simp at h
  | y :: L, 0, j, x, u, h, hu => by
    simp at h
    subst h
    have hj : j < (E.enc y).length := (List.getElem?_eq_some_iff.1 hu).1
    unfold Enc.flat
    rw [List.flatMap_cons, Nat.zero_mul, Nat.zero_add, List.getElem?_append_left hj]
    exact hu
  | y :: L, i + 1, j, x, u, h, hu => by
    have ih := Enc.flat_get (L := L) (i := i) (j := j) (x := x) (u := u) (by simpa using h) hu
    unfold Enc.flat at ih ⊢
    rw [List.flatMap_cons, List.getElem?_append_right (by rw [E.len, Nat.add_mul]; omega), E.len, show (i + 1) * E.k + j - E.k = i * E.k + j by rw [Nat.add_mul]; omega]
    exact ih
theorem Enc.flat_inv : ∀ {L : List α} {m : Nat} {u : Value}, (E.flat L)[m]? = some u → ∃ i j x, m = i * E.k + j ∧ L[i]? = some x ∧ (E.enc x)[j]? = some u
  | [], m, u, h => by simp [Enc.flat] at h
  | y :: L, m, u, h => by
    unfold Enc.flat at h
    rw [List.flatMap_cons] at h
    by_cases hm : m < (E.enc y).length
    · rw [List.getElem?_append_left hm] at h
      exact ⟨0, m, y, by omega, by simp, h⟩
    · rw [List.getElem?_append_right (by omega), E.len] at h
      rw [E.len] at hm
      obtain ⟨i, j, x, h1, h2, h3⟩ := Enc.flat_inv (L := L) (m := m - E.k) (u := u) h
      exact ⟨i + 1, j, x, by rw [Nat.add_mul]; omega, by simpa using h2, h3⟩
theorem Enc.flat_one_cell (L : List α) : ∀ u ∈ E.flat L, u.oneCell' = true := by
  intro u hu
  unfold Enc.flat at hu
  obtain ⟨x, _, hx⟩ := List.mem_flatMap.1 hu
  exact E.one x u hx
/-- cells hold the elements, one behind the other -/
def Enc.Row (cs : Array Value) (D : List α) : Prop := ∀ (i : Nat) (x : α), D[i]? = some x → ∀ (j : Nat) (u : Value), (E.enc x)[j]? = some u → cs[i * E.k + j]? = some u
variable {E}
theorem Enc.Row.take {cs : Array Value} {D : List α} (h : E.Row cs D) (n : Nat) : E.Row cs (D.take n) := fun i x hx j u hu => by
  rw [List.getElem?_take] at hx
  split at hx
  · exact h i x hx j u hu
  · cases hx
theorem Enc.Row.flat {cs : Array Value} {D : List α} (h : E.Row cs D) : cs.toList.take (D.length * E.k) = E.flat D := by
  apply List.ext_getElem?
  intro m
  rw [List.getElem?_take]
  split
  · rename_i hm
    have hml : m < (E.flat D).length := by rw [E.flat_len]; exact hm
    obtain ⟨u, hu⟩ : ∃ u, (E.flat D)[m]? = some u := ⟨_, List.getElem?_eq_getElem hml⟩
    obtain ⟨i, j, x, h1, h2, h3⟩ := E.flat_inv hu
    rw [hu, Array.getElem?_toList, h1]
    exact h i x h2 j u h3
  · rename_i hm
    rw [List.getElem?_eq_none]
    rw [E.flat_len]; omega
theorem Enc.Row.of_flat {cs : Array Value} {D : List α} (h : cs.toList.take (D.length * E.k) = E.flat D) : E.Row cs D := fun i x hx j u hu => by
  have h1 := E.flat_get hx hu
  rw [← h, List.getElem?_take] at h1
  split at h1
  · simpa using h1
  · cases h1

theorem owns_sl {w : World} {base : Nat} {t : TypeId} {k n : Nat} {v : Value} {xs : List Value} (h : w.ownsRow base t k v n xs) : ∃ a c, v = .slice a n c := by
  rcases h.2 with ⟨rfl, rfl⟩ | ⟨g, cap, cur, rfl, _⟩
  · exact ⟨_, _, rfl⟩
  · exact ⟨_, _, rfl⟩
theorem owns_keep {S : Nat → Prop} {w w' : World} {base n size : Nat} {e : TypeId} {v : Value} {xs : List Value} (h : w.ownsRow base e size v n xs) (hk : Kept S w w') (hs : ∀ b, v.ownBlock = some b → ¬ S b) : w'.ownsRow base e size v n xs := by
  refine ⟨h.1, ?_⟩
  rcases h.2 with h' | ⟨g, cap, cur, rfl, hb, hg, r⟩
  · exact .inl h'
  · exact .inr ⟨g, cap, cur, rfl, hb, hk.blk (t := e) (cs := cur) (hs g rfl) hg, r⟩

/-! ### read -/
variable (E) in
/-- v reads as L -/
def SlAt (w : World) (v : Value) (L : List α) : Prop :=
  (v = .slice none 0 0 ∧ L = []) ∨ ∃ x c, v = .slice (some x) L.length c ∧ L.length ≤ c ∧ c ≤ maxLen ∧ (L ≠ [] → x.spot = none) ∧
    ∀ (i : Nat) (y : α), L[i]? = some y → ∀ (j : Nat) (u : Value), (E.enc y)[j]? = some u → w.cell? ⟨x.block, x.off + (i * E.k + j), none⟩ = some u
variable {w w' : World} {v : Value} {L : List α}
theorem SlAt.sl (h : SlAt E w v L) : ∃ a c, v = .slice a L.length c ∧ L.length ≤ c ∧ c ≤ maxLen := by
  rcases h with ⟨rfl, rfl⟩ | ⟨x, c, rfl, h1, h2, _⟩
  · exact ⟨none, 0, rfl, Nat.le_refl _, Nat.zero_le _⟩
  · exact ⟨_, _, rfl, h1, h2⟩
theorem SlAt.le (h : SlAt E w v L) : L.length ≤ maxLen := by obtain ⟨a, c, _, h1, h2⟩ := h.sl; omega
theorem SlAt.one (h : SlAt E w v L) (hn : 0 < L.length) : ∃ g o c, v = .slice (some ⟨g, o, none⟩) L.length c ∧ L.length ≤ c ∧ c ≤ maxLen ∧ g < w.heap.size ∧
    ∀ (i : Nat) (y : α), L[i]? = some y → ∀ (j : Nat) (u : Value), (E.enc y)[j]? = some u → w.cell? ⟨g, o + (i * E.k + j), none⟩ = some u := by
  rcases h with ⟨rfl, rfl⟩ | ⟨x, c, rfl, h1, h2, h3, h4⟩
  · simp at hn
  · obtain ⟨g, o, s⟩ := x
    obtain rfl : s = none := h3 (by intro e; rw [e] at hn; simp at hn)
    refine ⟨g, o, c, rfl, h1, h2, ?_, h4⟩
    obtain ⟨y, r, rfl⟩ : ∃ y r, L = y :: r := by cases L with | nil => simp at hn | cons y r => exact ⟨y, r, rfl⟩
    have hl : 0 < (E.enc y).length := by rw [E.len]; exact E.pos
    exact World.block_lt_of_cell? w _ (h4 0 y rfl 0 _ (List.getElem?_eq_getElem hl))
theorem SlAt.keep {S : Nat → Prop} (h : SlAt E w v L) (hk : Kept S w w') (hs : ∀ b, v.ownBlock = some b → b < w.heap.size → ¬ S b) : SlAt E w' v L := by
  rcases h with h | ⟨x, c, rfl, h1, h2, h3, h4⟩
  · exact .inl h
  · refine .inr ⟨x, c, rfl, h1, h2, h3, fun i y hy j u hu => ?_⟩
    have hc := h4 i y hy j u hu
    have hlt : x.block < w.heap.size := World.block_lt_of_cell? w ⟨x.block, x.off + (i * E.k + j), none⟩ hc
    exact (World.cell?_of_block (a := ⟨x.block, x.off + (i * E.k + j), none⟩) (hk.block x.block hlt (hs x.block rfl hlt))).trans hc
/-- what was there at w0 stands, where nothing of w0 is touched -/
theorem SlAt.far {w0 : World} {S : Nat → Prop} (h0 : SlAt E w0 v L) (h : SlAt E w v L) (hk : Kept S w w') (hs : ∀ b, b < w0.heap.size → ¬ S b) : SlAt E w' v L := by
  by_cases hl : L = []
  · subst hl
    rcases h with h | ⟨x, c, rfl, h1, h2, _, _⟩
    · exact .inl h
    · exact .inr ⟨x, c, rfl, h1, h2, fun e => absurd rfl e, fun i y hy => by simp at hy⟩
  · obtain ⟨g, o, c, rfl, _, _, hg, _⟩ := h0.one (List.length_pos_iff.2 hl)
    exact h.keep hk fun b hb _ => by cases hb; exact hs g hg
theorem SlAt.kept (h : SlAt E w v L) (hk : Kept (fun _ => False) w w') : SlAt E w' v L := h.keep hk fun _ _ _ h => h
theorem SlAt.news (h : SlAt E w v L) (hn : 0 < L.length) : ∃ g o c, v = .slice (some ⟨g, o, none⟩) L.length c ∧ ∀ j u, (E.flat L)[j]? = some u → w.cell? ⟨g, o + j, none⟩ = some u := by
  obtain ⟨g, o, c, rfl, _, _, _, h4⟩ := h.one hn
  refine ⟨g, o, c, rfl, fun m u hu => ?_⟩
  obtain ⟨i, j, x, rfl, h2, h3⟩ := E.flat_inv hu
  exact h4 i x h2 j u h3

theorem SlAt.at_ {x : Addr} {n c : Nat} (h : SlAt E w (.slice (some x) n c) L) : n = L.length ∧ ∀ j u, (E.flat L)[j]? = some u → w.cell? (x.add j) = some u := by
  rcases h with ⟨h, _⟩ | ⟨y, d, h, h1, h2, h3, h4⟩
  · cases h
  · injection h with e1 e2 e3
    injection e1 with e1
    subst e1
    refine ⟨e2, fun m u hu => ?_⟩
    obtain ⟨i, j, z, rfl, g2, g3⟩ := E.flat_inv hu
    have hs := h3 (by rintro rfl; simp at g2)
    obtain ⟨g, o, s⟩ := x
    obtain rfl : s = none := hs
    rw [Addr.add_lit]
    exact h4 i z g2 j u g3

theorem SlAt.none_ {n c : Nat} (h : SlAt E w (.slice none n c) L) : L = [] ∧ n = 0 ∧ c = 0 := by
  rcases h with ⟨h, e⟩ | ⟨y, d, h, _⟩
  · injection h with e1 e2 e3
    exact ⟨e, e2, e3⟩
  · cases h

/-! ### owned -/
variable (E) in
/-- block g is a row of room for cap elements, the first of which are D -/
def OwnAt (w : World) (t : TypeId) (g cap : Nat) (D : List α) : Prop := ∃ cs, Blk w g t cs ∧ cs.size = cap * E.k ∧ D.length ≤ cap ∧ cap ≤ maxLen ∧ E.Row cs D
variable {t : TypeId} {g cap : Nat} {D : List α}
theorem OwnAt.lt (h : OwnAt E w t g cap D) : g < w.heap.size := by obtain ⟨cs, h1, _⟩ := h; exact h1.lt
theorem OwnAt.le (h : OwnAt E w t g cap D) : D.length ≤ cap ∧ cap ≤ maxLen := by obtain ⟨cs, _, _, h1, h2, _⟩ := h; exact ⟨h1, h2⟩
theorem OwnAt.frozen (h : OwnAt E w t g cap D) (i : Nat) : w.frozen? ⟨g, i, none⟩ = false := by obtain ⟨cs, h1, _⟩ := h; exact h1.frozen i
theorem OwnAt.cell (h : OwnAt E w t g cap D) {i j : Nat} {x : α} {u : Value} (hx : D[i]? = some x) (hu : (E.enc x)[j]? = some u) : w.cell? ⟨g, i * E.k + j, none⟩ = some u := by
  obtain ⟨cs, h1, _, _, _, h2⟩ := h
  exact h1.cell' (h2 i x hx j u hu)
theorem OwnAt.keep {S : Nat → Prop} (h : OwnAt E w t g cap D) (hk : Kept S w w') (hs : ¬ S g) : OwnAt E w' t g cap D := by
  obtain ⟨cs, h1, h2⟩ := h
  exact ⟨cs, hk.blk hs h1, h2⟩
theorem OwnAt.take (h : OwnAt E w t g cap D) (n : Nat) : OwnAt E w t g cap (D.take n) := by
  obtain ⟨cs, h1, h2, h3, h4, h5⟩ := h
  exact ⟨cs, h1, h2, by rw [List.length_take]; omega, h4, h5.take n⟩
theorem OwnAt.slAt (h : OwnAt E w t g cap D) : SlAt E w (.slice (some ⟨g, 0, none⟩) D.length cap) D :=
  .inr ⟨⟨g, 0, none⟩, cap, rfl, h.le.1, h.le.2, fun _ => rfl, fun i y hy j u hu => by rw [Nat.zero_add]; exact h.cell hy hu⟩
theorem OwnAt.owns (h : OwnAt E w t g cap D) {base : Nat} (hb : base ≤ g) : w.ownsRow base t E.k (.slice (some ⟨g, 0, none⟩) D.length cap) D.length (E.flat D) := by
  obtain ⟨cs, h1, h2, h3, h4, h5⟩ := h
  exact ⟨E.flat_len D, .inr ⟨g, cap, cs, rfl, hb, h1, h3, h4, h2, h5.flat⟩⟩
theorem own_of {base n : Nat} (h : w.ownsRow base t E.k v n (E.flat D)) : D.length = n ∧ ((v = .slice none 0 0 ∧ D = []) ∨ ∃ g cap, v = .slice (some ⟨g, 0, none⟩) n cap ∧ base ≤ g ∧ OwnAt E w t g cap D) := by
  have hl : D.length = n := by
    have := h.1
    rw [E.flat_len] at this
    exact Nat.eq_of_mul_eq_mul_right E.pos this
  refine ⟨hl, ?_⟩
  rcases h.2 with ⟨rfl, rfl⟩ | ⟨g, cap, cur, rfl, hb, hg, h1, h2, h3, h4⟩
  · exact .inl ⟨rfl, List.length_eq_zero_iff.1 hl⟩
  · exact .inr ⟨g, cap, rfl, hb, cur, hg, h3, by omega, h2, Enc.Row.of_flat (by rw [hl]; exact h4)⟩
theorem owns_slAt {base n : Nat} (h : w.ownsRow base t E.k v n (E.flat D)) : SlAt E w v D := by
  obtain ⟨hl, hv⟩ := own_of h
  rcases hv with h | ⟨g, cap, rfl, _, ho⟩
  · exact .inl h
  · subst hl; exact ho.slAt
theorem OwnAt.set2 (h : OwnAt E w t g cap D) {i : Nat} (hi : i < D.length) {x : α} {a b : Value} (hk : E.k = 2) (hx : E.enc x = [a, b]) :
    OwnAt E ((w.setCell ⟨g, i * 2, none⟩ a).setCell ⟨g, i * 2 + 1, none⟩ b) t g cap (D.set i x) := by
  obtain ⟨cs, h1, h2, h3, h4, h5⟩ := h
  refine ⟨_, (h1.set_ (i * 2) a).set_ (i * 2 + 1) b, by simp [h2], by simpa using h3, h4, fun m y hy j u hu => ?_⟩
  rw [hk] at h2 ⊢
  have hj : j < 2 := by rw [← hk, ← E.len y]; exact (List.getElem?_eq_some_iff.1 hu).1
  have hsz : i * 2 + 1 < cs.size := by omega
  by_cases hm : i = m
  · subst hm
    simp [hi] at hy
    subst hy
    rw [hx] at hu
    rcases (show j = 0 ∨ j = 1 by omega) with rfl | rfl
    · simp at hu
      subst hu
      rw [Array.getElem?_setIfInBounds_ne (by omega), Nat.add_zero, Array.getElem?_setIfInBounds_self_of_lt (by omega)]
    · simp at hu
      subst hu
      rw [Array.getElem?_setIfInBounds_self_of_lt (by simpa using hsz)]
  · rw [List.getElem?_set_ne hm] at hy
    have := h5 m y hy j u hu
    rw [hk] at this
    rw [Array.getElem?_setIfInBounds_ne (by omega), Array.getElem?_setIfInBounds_ne (by omega)]
    exact this
theorem OwnAt.set1of3 (h : OwnAt E w t g cap D) {i m : Nat} {x y : α} (hi : D[i]? = some x) {b : Value} (hm : m < E.k) (hy : E.enc y = (E.enc x).set m b) :
    OwnAt E (w.setCell ⟨g, i * E.k + m, none⟩ b) t g cap (D.set i y) := by
  obtain ⟨cs, h1, h2, h3, h4, h5⟩ := h
  have hil : i < D.length := (List.getElem?_eq_some_iff.1 hi).1
  refine ⟨_, h1.set_ (i * E.k + m) b, by simp [h2], by simpa using h3, h4, fun n z hz j u hu => ?_⟩
  have hj : j < E.k := by rw [← E.len z]; exact (List.getElem?_eq_some_iff.1 hu).1
  have hsz : i * E.k + m < cs.size := by
    rw [h2]
    have := Nat.mul_le_mul_right E.k (show i + 1 ≤ cap by omega)
    rw [Nat.add_mul] at this
    omega
  by_cases hn : i = n
  · subst hn
    simp [hil] at hz
    subst hz
    rw [hy, List.getElem?_set] at hu
    by_cases hjm : m = j
    · subst hjm
      simp [E.len, hm] at hu
      subst hu
      rw [Array.getElem?_setIfInBounds_self_of_lt hsz]
    · rw [if_neg hjm] at hu
      rw [Array.getElem?_setIfInBounds_ne (by omega)]
      exact h5 i x hi j u hu
  · rw [List.getElem?_set_ne hn] at hz
    have hne : i * E.k + m ≠ n * E.k + j := by
      intro e
      have e1 : (i * E.k + m) / E.k = i := by rw [Nat.mul_comm, Nat.mul_add_div E.pos, Nat.div_eq_of_lt hm, Nat.add_zero]
      have e2 : (n * E.k + j) / E.k = n := by rw [Nat.mul_comm, Nat.mul_add_div E.pos, Nat.div_eq_of_lt hj, Nat.add_zero]
      rw [e, e2] at e1
      exact hn e1.symm
    rw [Array.getElem?_setIfInBounds_ne hne]
    exact h5 n z hz j u hu
end
end Go.Proofs.YtaaeomapbigfgaaGreat
namespace Go.Proofs.YtaaeomapbigfgaaGreat.St
@[ext] structure Dot where
  site : Int
  seq : Int
deriving DecidableEq, Inhabited
def isSite (n : Int) : Prop := 1 ≤ n ∧ n ≤ 16
instance (n : Int) : Decidable (isSite n) := by unfold isSite; infer_instance
def Dot.Ok (d : Dot) : Prop := 1 ≤ d.site ∧ d.site ≤ 16 ∧ 1 ≤ d.seq ∧ d.seq ≤ 2147483647
instance (d : Dot) : Decidable d.Ok := by unfold Dot.Ok; infer_instance
/-- one Dot more -/
def sayS (f : Nat → Int) (d : Dot) : Nat → Int := fun i => if d.Ok ∧ d.site = i then (if f i < d.seq then d.seq else f i) else f i
/-- what a list of Dots says: of each site the greatest number -/
def says (L : List Dot) : Nat → Int := L.foldl sayS fun _ => 0
theorem says_snoc (L : List Dot) (d : Dot) : says (L ++ [d]) = sayS (says L) d := by unfold says; rw [List.foldl_append]; rfl
theorem says_take {L : List Dot} {n : Nat} {d : Dot} (h : L[n]? = some d) : says (L.take (n + 1)) = sayS (says (L.take n)) d := by
  rw [← says_snoc]
  congr 1
  obtain ⟨h1, rfl⟩ := List.getElem?_eq_some_iff.1 h
  exact List.take_succ_eq_append_getElem h1
theorem foldl_bd : ∀ (L : List Dot) (f : Nat → Int) (i : Nat), 0 ≤ f i ∧ f i ≤ 2147483647 → 0 ≤ L.foldl sayS f i ∧ L.foldl sayS f i ≤ 2147483647
  | [], _, _, h => h
  | d :: r, f, i, h => by
    refine foldl_bd r (sayS f d) i ?_
    unfold sayS
    split
    · rename_i h1
      have := h1.1
      unfold Dot.Ok at this
      split <;> omega
    · exact h
theorem says_bd (L : List Dot) (i : Nat) : 0 ≤ says L i ∧ says L i ≤ 2147483647 := foldl_bd L _ i (by decide)
theorem foldl_out : ∀ (L : List Dot) (f : Nat → Int) (i : Nat), ¬ (1 ≤ i ∧ i ≤ 16) → L.foldl sayS f i = f i
  | [], _, _, _ => rfl
  | d :: r, f, i, h => by
    rw [List.foldl_cons, foldl_out r _ i h]
    unfold sayS
    rw [if_neg]
    intro ⟨h1, h2⟩
    unfold Dot.Ok at h1
    omega
theorem says_out (L : List Dot) (i : Nat) (h : ¬ (1 ≤ i ∧ i ≤ 16)) : says L i = 0 := foldl_out L _ i h
/-- the vector of a row -/
def vecOf (f : Nat → Int) (n : Nat) : List Dot := (List.range n).filterMap fun i => if 0 < f i then some ⟨i, f i⟩ else none
theorem vecOf_succ (f : Nat → Int) (n : Nat) : vecOf f (n + 1) = if 0 < f n then vecOf f n ++ [⟨n, f n⟩] else vecOf f n := by
  unfold vecOf
  rw [List.range_succ, List.filterMap_append]
  by_cases h : 0 < f n <;> simp [h]
theorem vecOf_len (f : Nat → Int) (n : Nat) : (vecOf f n).length ≤ n := by
  unfold vecOf
  have := List.length_filterMap_le (fun i : Nat => if 0 < f i then some (⟨i, f i⟩ : Dot) else none) (List.range n)
  simpa using this
def getV (L : List Dot) (s : Int) : Int := if isSite s then says L s.toNat else 0
def hasV (L : List Dot) (d : Dot) : Prop := 1 ≤ d.seq ∧ d.seq ≤ getV L d.site
instance (L : List Dot) (d : Dot) : Decidable (hasV L d) := by unfold hasV; infer_instance
def coversV (A B : List Dot) : Prop := ∀ i, i < 17 → says B i ≤ says A i
instance (A B : List Dot) : Decidable (coversV A B) := by unfold coversV; infer_instance
def sumTo (f : Nat → Int) : Nat → Int
  | 0 => 0
  | n + 1 => sumTo f n + f n
def sumV (L : List Dot) : Int := sumTo (says L) 17
/-- why a vector is none: 1 ErrArg, 6 ErrForm, 9 ErrOrder, 0 -/
def chkV : Int → List Dot → Int
  | _, [] => 0
  | last, d :: r => if ¬ isSite d.site then 1 else if d.seq < 1 ∨ 2147483647 < d.seq then 6 else if d.site ≤ last then 9 else chkV d.site r
def addV (L : List Dot) (d : Dot) : List Dot := vecOf (fun i => if (i : Int) = d.site then d.seq else says L i) 17
def whyAdd (L : List Dot) (d : Dot) : Int := if ¬ isSite d.site ∨ d.seq < 1 then 1 else if 2147483647 < d.seq then 17 else if d.seq ≠ getV L d.site + 1 then 9 else 0
def maxV (A B : List Dot) : Nat → Int := fun i => if says A i < says B i then says B i else says A i
end Go.Proofs.YtaaeomapbigfgaaGreat.St
namespace Go.Proofs.YtaaeomapbigfgaaGreat
open Go.RowKit
section
variable {P : Program} {w w' : World} {g b : Nat} {t t' : TypeId} {cs old : Array Value}
theorem Blk.loads (h : Blk w g t cs) {n : Nat} (hn : cs.size = n) : (loadCellsFrom ⟨g, 0, none⟩ 0 n #[]).run P w = .ok cs w := by
  subst hn
  have := run_loadCells_list (P := P) w ⟨g, 0, none⟩ cs.toList (fun j v hv => by
    have hadd : (⟨g, 0, none⟩ : Addr).add j = ⟨g, j, none⟩ := by unfold Addr.add; split <;> simp_all
    rw [hadd, h.cell]
    simpa using hv)
  simpa [loadCells] using this
theorem Blk.stores (h : Blk w g t old) (hs : old.size = cs.size) (h1 : cs.all (·.oneCell') = true) : (storeCells ⟨g, 0, none⟩ cs.toList 0).run P w = .ok () (w.setRow g cs) := by
  have := run_storeCells_from (P := P) g t cs.toList 0 old w h (by simp; omega) (fun v hv => (Array.all_eq_true_iff_forall_mem.1 h1) v (by simpa using hv))
  simpa [hs] using this
theorem Blk.row (h : Blk w g t old) (cs : Array Value) : Blk (w.setRow g cs) g t cs := setRow_heap w g old cs t (0, 0) h
theorem Blk.row_far (h : Blk w b t old) (hne : b ≠ g) (cs : Array Value) : Blk (w.setRow g cs) b t old := (setRow_other w g b cs hne).trans h
theorem Kept.setRow {S : Nat → Prop} (h : Kept S w w') (hg : g < w.heap.size → S g) (cs : Array Value) : Kept S w (w'.setRow g cs) :=
  ⟨h.os, h.tape, h.output, by rw [setRow_size]; exact h.size, fun k hk hs => by rw [setRow_other _ _ _ _ (fun e => by subst e; exact hs (hg hk))]; exact h.block k hk hs⟩
theorem Grew.setRow (h : Grew w w') (hg : w.heap.size ≤ g) (cs : Array Value) : Grew w (w'.setRow g cs) := by
  obtain ⟨q, os, rfl⟩ := h
  have hs : ((Sort.grow (w.drewN q) os).setRow g cs).heap.size = w.heap.size + os.size := by rw [setRow_size]; simp [Sort.grow, World.drewN]
  have hh : ((Sort.grow (w.drewN q) os).setRow g cs).heap = w.heap ++ ((Sort.grow (w.drewN q) os).setRow g cs).heap.extract w.heap.size ((Sort.grow (w.drewN q) os).setRow g cs).heap.size := by
    apply Array.ext
    · simp [hs]
    · intro i h1 h2
      rw [Array.getElem_append]
      split
      · rename_i hi
        simp only [World.setRow, Sort.grow, World.drewN, Array.getElem_modify]
        rw [if_neg (by omega), Array.getElem_append_left hi]
      · rename_i hi
        rw [Array.getElem_extract]
        congr 1
        omega
  obtain ⟨os', hh⟩ : ∃ os', ((Sort.grow (w.drewN q) os).setRow g cs).heap = w.heap ++ os' := ⟨_, hh⟩
  refine ⟨q, os', ?_⟩
  have e : (Sort.grow (w.drewN q) os).setRow g cs = { w.drewN q with heap := ((Sort.grow (w.drewN q) os).setRow g cs).heap } := rfl
  rw [e, hh]
  rfl
theorem Kept.cell (hk : Kept (fun _ => False) w w') {a : Addr} {v : Value} (h : w.cell? a = some v) : w'.cell? a = some v := by
  have hlt := World.block_lt_of_cell? w _ h
  have hb := hk.block a.block hlt (fun h => h)
  unfold World.cell? at h ⊢
  rw [hb]
  exact h
theorem owns_lower {base base' n size : Nat} {e : TypeId} {v : Value} {xs : List Value} (h : w.ownsRow base e size v n xs) (hb : base' ≤ base) : w.ownsRow base' e size v n xs := by
  refine ⟨h.1, ?_⟩
  rcases h.2 with h2 | ⟨g, c, cur, e2, h1, h3⟩
  · exact .inl h2
  · exact .inr ⟨g, c, cur, e2, Nat.le_trans hb h1, h3⟩
theorem Blk.result {fn : Func} {p : Tmp} {ty : TypeId} {d : TypeDesc} (hr : fn.results = #[.cell p ty]) (tmps : Array Value) (h : Blk w g t cs) (hp : tmps.getD p undef = .pointer (some ⟨g, 0, none⟩))
    (hu : P.underlying ty = some d) (hd : (match d with | .struct _ | .array _ _ => true | _ => false) = true) (hi : (P.info? ty).map (·.size) = some cs.size) : (results fn tmps).run P w = .ok (.agg cs) w :=
  results_cell_row hr tmps w g t cs (0, 0) d hp h hu hd hi
end
end Go.Proofs.YtaaeomapbigfgaaGreat
namespace Go.Proofs.YtaaeomapbigfgaaGreat
open Go.RowKit Go.Proofs.YtaaeomapbigfgaaGreat.St
def dotE : Enc Dot := ⟨2, fun d => [.int .i64 d.site, .int .i64 d.seq], fun _ => rfl, by decide, fun d u hu => by
  rcases List.mem_cons.1 hu with rfl | hu
  · rfl
  · rw [List.mem_singleton.1 hu]; rfl⟩
/-- the cells of a row -/
def cells (f : Nat → Int) : Array Value := ((List.range 17).map fun i => Value.int .i64 (f i)).toArray
theorem cells_size (f : Nat → Int) : (cells f).size = 17 := by simp [cells]
theorem cells_get (f : Nat → Int) {i : Nat} (h : i < 17) : (cells f)[i]? = some (.int .i64 (f i)) := by simp [cells, h]
theorem cells_set (f : Nat → Int) (k : Nat) (x : Int) : (cells f).setIfInBounds k (.int .i64 x) = cells fun i => if i = k then x else f i := by
  apply Array.ext
  · simp [cells]
  · intro i h1 h2
    simp [cells] at h2
    by_cases h : k = i
    · subst h; simp [cells]
    · have h' : ¬ i = k := fun e => h e.symm
      simp [cells, h, h']
theorem cells_zero : cells (fun _ => 0) = #[.int .i64 0, .int .i64 0, .int .i64 0, .int .i64 0, .int .i64 0, .int .i64 0, .int .i64 0, .int .i64 0, .int .i64 0, .int .i64 0, .int .i64 0, .int .i64 0, .int .i64 0, .int .i64 0, .int .i64 0, .int .i64 0, .int .i64 0] := by rfl
theorem cells_congr {f g : Nat → Int} (h : ∀ i, i < 17 → f i = g i) : cells f = cells g := by
  unfold cells
  congr 1
  apply List.map_congr_left
  intro i hi
  rw [h i (List.mem_range.1 hi)]
theorem says_cells {f : Nat → Int} {k : Nat} {q : Int} (h : (⟨k, q⟩ : Dot).Ok) : (cells f).setIfInBounds k (.int .i64 (if f k < q then q else f k)) = cells (sayS f ⟨k, q⟩) := by
  rw [cells_set]
  refine cells_congr fun i _ => ?_
  unfold sayS
  by_cases hi : i = k
  · subst hi
    rw [if_pos rfl]
    have : (if (⟨i, q⟩ : Dot).Ok ∧ (⟨i, q⟩ : Dot).site = i then (if f i < q then q else f i) else f i) = if f i < q then q else f i := if_pos ⟨h, rfl⟩
    exact this.symm
  · rw [if_neg hi, if_neg]
    intro ⟨_, e⟩
    have e : (k : Int) = i := e
    omega
theorem sayS_none {f : Nat → Int} {d : Dot} (h : ¬ d.Ok) : sayS f d = f := by
  funext i
  unfold sayS
  rw [if_neg (fun e => h e.1)]
theorem cells_one (f : Nat → Int) : (cells f).all (·.oneCell') = true := by simp [cells, Value.oneCell']
theorem SlAt.dot {w : World} {v : Value} {L : List Dot} (h : SlAt dotE w v L) (hn : 0 < L.length) : ∃ g o c, v = .slice (some ⟨g, o, none⟩) L.length c ∧ g < w.heap.size ∧ ∀ (i : Nat) (x : Dot), L[i]? = some x →
    w.cell? ⟨g, o + i * 2, none⟩ = some (.int .i64 x.site) ∧ w.cell? ⟨g, o + i * 2 + 1, none⟩ = some (.int .i64 x.seq) := by
  obtain ⟨g, o, c, rfl, _, _, hg, hc⟩ := h.one hn
  exact ⟨g, o, c, rfl, hg, fun i x hx => ⟨hc i x hx 0 _ rfl, hc i x hx 1 _ rfl⟩⟩
theorem site_any (n : Int) (w : World) : Calls Tryz.prog 54 #[.int .i64 n] w fun e w' => e = .returned (.bool (decide (isSite n))) ∧ w' = w := by
  unfold isSite
  go_enter Tryz.func54, Tryz.ntmps54
  by_cases h1 : 1 ≤ n
  · by_cases h2 : n ≤ 16
    · have e : decide (1 ≤ n ∧ n ≤ 16) = true := decide_eq_true ⟨h1, h2⟩
      rw [e]
      go_wp2_with fail
      go_ret
      exact ⟨rfl, rfl⟩
    · have e : decide (1 ≤ n ∧ n ≤ 16) = false := decide_eq_false fun h => h2 h.2
      rw [e]
      go_wp2_with fail
      go_ret
      exact ⟨rfl, rfl⟩
  · have e : decide (1 ≤ n ∧ n ≤ 16) = false := decide_eq_false fun h => h1 h.1
    rw [e]
    go_wp2_with fail
    go_ret
    exact ⟨rfl, rfl⟩
set_option maxRecDepth 100000 in
set_option maxHeartbeats 4000000 in
theorem of_grew {w : World} {v : Value} {L : List Dot} (h : SlAt dotE w v L) (hb : L.length ≤ 1000000000) : Calls Tryz.prog 76 #[v] w fun e w' => e = .returned (.agg (cells (says L))) ∧ Grew w w' := by
  obtain ⟨a, c, rfl, _, _⟩ := h.sl
  have HS := Lib.hid h
  clear h
  go_enter Tryz.func76, Tryz.ntmps76
  go_wp2_with fail
  go_loopw [8] (fun iv wr => ∃ n : Nat, iv = .int .i64 n ∧ n ≤ L.length ∧ Blk wr (w.heap.size + 1) 115 (cells (says (L.take n))) ∧ Blk wr w.heap.size 115 (cells fun _ => 0) ∧ Grew w wr) (fun iv _ => L.length - (intOf iv).toNat)
  case atStart =>
    refine ⟨0, rfl, Nat.zero_le _, ?_, (Blk.new _ _ _).alloc _, ((Grew.refl _).alloc _).alloc _⟩
    have := Blk.new (w.alloc (.cells (cells fun _ => 0) 115)) 115 (cells fun _ => 0)
    rw [show (w.alloc (.cells (cells fun _ => 0) 115)).heap.size = w.heap.size + 1 by simp] at this
    exact this
  case round =>
    obtain ⟨n, rfl, hn, hs, hr, hk⟩ := hrel
    have hn0 : (0 : Int) ≤ n := by omega
    by_cases hlt : n < L.length
    case neg =>
      have hnl : ¬ (n : Int) < L.length := by omega
      rw [List.take_of_length_le (by omega)] at hs
      have HS' := Lib.hid hs
      have HR := Lib.hid hr
      have x3 := Lib.hid (hk.setRow (g := w.heap.size) (Nat.le_refl _) (cells (says L)))
      clear hs hr hk
      go_wp2_with (first
        | (refine wpList_load_row rfl 115 _ rfl (w.heap.size + 1) rfl 115 _ (0, 0) _ HS'.out Tryz.underlying115 rfl (by rw [cells_size]; kernel_rfl) ?_)
        | (refine wpList_store_row rfl 115 _ _ rfl w.heap.size (cells (says L)) rfl rfl 115 _ HR.out (by rw [cells_size]; kernel_rfl) (by rw [cells_size, cells_size]) (cells_one _) ?_))
      exact bodyPost_ret (Blk.result rfl _ (HR.out.row _) rfl Tryz.underlying115 rfl (by rw [cells_size]; kernel_rfl)) rfl ⟨rfl, x3.out⟩
    case pos =>
      have hltI : (n : Int) < L.length := by omega
      obtain ⟨d, hd⟩ := get_of_lt hlt
      obtain ⟨g, o, c', hv, hg, hc⟩ := SlAt.dot (HS.out.kept hk.kept) (by omega)
      cases hv
      obtain ⟨c0, c1⟩ := hc n d hd
      have hsay := Lib.hid (says_take hd)
      generalize says (L.take n) = f at *
      obtain ⟨ds, dq⟩ := d
      have K0 := Lib.hid (hk.alloc (.cells #[.int .i64 ds, .int .i64 dq] 28))
      have FS := Lib.hid (hs.alloc (.cells #[.int .i64 ds, .int .i64 dq] 28))
      have FR := Lib.hid (hr.alloc (.cells #[.int .i64 ds, .int .i64 dq] 28))
      have hsz := hs.lt
      have H1 := Lib.hid hs
      have H2 := Lib.hid hr
      have H3 := Lib.hid hk
      clear hc hd
      by_cases hok : (⟨ds, dq⟩ : Dot).Ok
      case pos =>
        have hok' := hok
        unfold Dot.Ok at hok'
        simp only at hok' c0 c1
        obtain ⟨k, rfl⟩ : ∃ k : Nat, ds = k := ⟨ds.toNat, by omega⟩
        have hsite : decide (isSite k) = true := decide_eq_true ⟨by omega, by omega⟩
        have h1 := hok'.2.2.1
        have h2 := hok'.2.2.2
        have hkl : k < 17 := by omega
        have hkI : (k : Int) < 17 := by omega
        have hk0 : (0 : Int) ≤ k := by omega
        have s0 := FS.out.cell' (cells_get f hkl)
        have fz := FS.out.frozen k
        have hse := Lib.hid (site_any k)
        have hmx : (if f k < dq then dq else f k) = sayS f ⟨k, dq⟩ k := by
          have : sayS f ⟨k, dq⟩ k = if f k < dq then dq else f k := if_pos ⟨hok, rfl⟩
          exact this.symm
        have OK := Lib.hid hok
        have MX := Lib.hid hmx
        clear hs hr hk hok' hok hmx
        go_wp2_with (go_at_call 54; refine (hse.out _).mono ?_; rintro e w1 ⟨rfl, rfl⟩; rw [hsite])
        go_region
        go_wp2_with fail
        go_roundw
        case rel =>
          refine ⟨n + 1, by go_num, by omega, ?_, ((H2.out.far (by show w.heap.size ≠ w.heap.size + 1; omega) _).alloc _).drewN 1, ((H3.out.setCell (by show w.heap.size ≤ w.heap.size + 1; omega) _).alloc _).drewN 1⟩
          rw [hsay.out, ← says_cells OK.out]
          exact ((H1.out.set_ k _).alloc _).drewN 1
        case measure => simp [intOf] <;> omega
      case neg =>
        have K1 := Lib.hid hok
        have S1 := Lib.hid hsay
        by_cases h1 : 1 ≤ ds
        by_cases h2 : ds ≤ 16
        by_cases h3 : 1 ≤ dq
        by_cases h4 : dq ≤ 2147483647
        · exact absurd ⟨h1, h2, h3, h4⟩ hok
        have hsite : decide (isSite ds) = true := decide_eq_true ⟨h1, h2⟩
        rotate_left
        have hsite : decide (isSite ds) = true := decide_eq_true ⟨h1, h2⟩
        rotate_left
        have hsite : decide (isSite ds) = false := decide_eq_false fun h => h2 h.2
        rotate_left
        have hsite : decide (isSite ds) = false := decide_eq_false fun h => h1 h.1
        rotate_left
        all_goals
          have hse := Lib.hid (site_any ds)
          clear hs hr hk hok hsay
          go_wp2_with (go_at_call 54; refine (hse.out _).mono ?_; rintro e w1 ⟨rfl, rfl⟩; rw [hsite])
          go_roundw
          focus
            refine ⟨n + 1, by go_num, by omega, ?_, FR.out, K0.out⟩
            rw [S1.out, sayS_none K1.out]
            exact FS.out
        all_goals simp [intOf] <;> omega
theorem of_any {w : World} {v : Value} {L : List Dot} (h : SlAt dotE w v L) (hb : L.length ≤ 1000000000) : Calls Tryz.prog 76 #[v] w fun e w' => e = .returned (.agg (cells (says L))) ∧ Kept (fun _ => False) w w' := (of_grew h hb).mono fun _ _ ⟨he, hg⟩ => ⟨he, hg.kept⟩
end Go.Proofs.YtaaeomapbigfgaaGreat
