/- Six rows and their arrays: what each step of TreeOwn leaves. -/
import Derived.Test.YtlafodnaifghcaaKTrOwn0
namespace Go.Proofs.Ytlafodnaifghcaa.Tr
open Go.RowKit Go.Proofs.Ytlafodnaifghcaa.St Go.Proofs.Ytlafodnaifghcaa
def n1 (j : Nat) : Nd := ⟨⟨0, 0⟩, ⟨0, 0⟩, 0, 10 + j⟩
def n2 (j : Nat) : Nd := ⟨⟨0, 0⟩, ⟨0, 0⟩, 0, 20 + j⟩
def r1 (j : Nat) : Run := ⟨⟨0, 0⟩, 10 + j⟩
def r2 (j : Nat) : Run := ⟨⟨0, 0⟩, 20 + j⟩
def HH (ND : List Nd) (RL : List Run) (st m : Nat → Nat) (v x : Nat → Value) (s : Nat) : World → (Nat → Prop) → Prop :=
  if s % 2 = 0 then HG nodeE 59 (n1 (s / 2)) (n2 (s / 2)) ND (st s) (m s) (v s) (x s) else HG runE 61 (r1 (s / 2)) (r2 (s / 2)) RL (st s) (m s) (v s) (x s)
section
variable {ND : List Nd} {RL : List Run} {st m st' m' : Nat → Nat} {v x v' x' : Nat → Value} {w w' w1 wz : World} {N : Nat → Prop} {R Q n s j k : Nat}
theorem HH.even (j : Nat) : HH ND RL st m v x (2 * j) = HG nodeE 59 (n1 j) (n2 j) ND (st (2 * j)) (m (2 * j)) (v (2 * j)) (x (2 * j)) := by
  unfold HH
  rw [if_pos (by omega), show 2 * j / 2 = j by omega]
theorem HH.odd (j : Nat) : HH ND RL st m v x (2 * j + 1) = HG runE 61 (r1 j) (r2 j) RL (st (2 * j + 1)) (m (2 * j + 1)) (v (2 * j + 1)) (x (2 * j + 1)) := by
  unfold HH
  rw [if_neg (by omega), show (2 * j + 1) / 2 = j by omega]
theorem HH.firm (s : Nat) : Firm (HH ND RL st m v x s) := by
  unfold HH
  split
  · exact HG.firm _ _ _ _ _ _ _ _ _
  · exact HG.firm _ _ _ _ _ _ _ _ _
theorem HH.same (h1 : st' s = st s) (h2 : m' s = m s) (h3 : v' s = v s) (h4 : x' s = x s) : HH ND RL st' m' v' x' s = HH ND RL st m v x s := by
  unfold HH
  rw [h1, h2, h3, h4]
theorem tri (f : Nat → Value) {n : Nat} (h : n < 3) : (#[f 0, f 2, f 4] : Array Value)[n]? = some (f (2 * n)) := by
  rcases (show n = 0 ∨ n = 1 ∨ n = 2 by omega) with rfl | rfl | rfl <;> rfl
theorem tri1 (f : Nat → Value) {n : Nat} (h : n < 3) : (#[f 1, f 3, f 5] : Array Value)[n]? = some (f (2 * n + 1)) := by
  rcases (show n = 0 ∨ n = 1 ∨ n = 2 by omega) with rfl | rfl | rfl <;> rfl
theorem tri_set (f : Nat → Value) {n : Nat} (h : n < 3) (y : Value) : (#[f 0, f 2, f 4] : Array Value).setIfInBounds n y = #[up f (2 * n) y 0, up f (2 * n) y 2, up f (2 * n) y 4] := by
  rcases (show n = 0 ∨ n = 1 ∨ n = 2 by omega) with rfl | rfl | rfl <;> rfl
theorem tri_set1 (f : Nat → Value) {n : Nat} (h : n < 3) (y : Value) : (#[f 1, f 3, f 5] : Array Value).setIfInBounds n y = #[up f (2 * n + 1) y 1, up f (2 * n + 1) y 3, up f (2 * n + 1) y 5] := by
  rcases (show n = 0 ∨ n = 1 ∨ n = 2 by omega) with rfl | rfl | rfl <;> rfl
theorem tri_up (f : Nat → Value) (n : Nat) (y : Value) : (#[up f (2 * n + 1) y 0, up f (2 * n + 1) y 2, up f (2 * n + 1) y 4] : Array Value) = #[f 0, f 2, f 4] := by
  simp only [up]
  rw [if_neg (by omega), if_neg (by omega), if_neg (by omega)]
theorem tri_up1 (f : Nat → Value) (n : Nat) (y : Value) : (#[up f (2 * n) y 1, up f (2 * n) y 3, up f (2 * n) y 5] : Array Value) = #[f 1, f 3, f 5] := by
  simp only [up]
  rw [if_neg (by omega), if_neg (by omega), if_neg (by omega)]
/-- two arrays -/
def Arr (w : World) (R : Nat) (v : Nat → Value) : Prop := Blk w R 55 #[v 0, v 2, v 4] ∧ Blk w (R + 1) 56 #[v 1, v 3, v 5]
theorem Arr.keep {S : Nat → Prop} (h : Arr w R v) (hk : Kept S w w') (h0 : ¬ S R) (h1 : ¬ S (R + 1)) : Arr w' R v := ⟨hk.blk h0 h.1, hk.blk h1 h.2⟩
theorem Arr.set0 (h : Arr w R v) (hn : n < 3) (y : Value) : Arr (w.setCell ⟨R, n, none⟩ y) R (up v (2 * n) y) :=
  ⟨by rw [← tri_set v hn]; exact h.1.set_ n y, by rw [tri_up1]; exact h.2.far (by simp) y⟩
theorem Arr.set1 (h : Arr w R v) (hn : n < 3) (y : Value) : Arr (w.setCell ⟨R + 1, n, none⟩ y) R (up v (2 * n + 1) y) :=
  ⟨by rw [tri_up]; exact h.1.far (by simp) y, by rw [← tri_set1 v hn]; exact h.2.set_ n y⟩
/-- where the loops stand -/
structure OS (wz : World) (N : Nat → Prop) (R : Nat) (ND : List Nd) (RL : List Run) (st m : Nat → Nat) (v x : Nat → Value) (w : World) : Prop where
  fam : Fam N (HH ND RL st m v x) w
  arr : Arr w R v
  kept : Kept (fun _ => False) wz w
  nR : N R ∧ N (R + 1) ∧ wz.heap.size ≤ R
  nz : ∀ b, b < wz.heap.size → N b
theorem OS.still (h : OS wz N R ND RL st m v x w) (hk : Kept (fun _ => False) w w') : OS wz N R ND RL st m v x w' :=
  ⟨h.fam.still (fun _ _ => HH.firm _) hk fun _ h => h.elim, h.arr.keep hk (fun h => h) (fun h => h), h.kept.trans hk fun _ _ h => h, h.nR, h.nz⟩
/-- one of the six turned -/
theorem OS.turn {S : Nat → Prop} (h : OS wz N R ND RL st m v x w) (s0 : Nat) (hs0 : s0 < 6) (hsame : ∀ s, s < 6 → s ≠ s0 → st' s = st s ∧ m' s = m s ∧ v' s = v s ∧ x' s = x s) (hv : v' = v) (hk : Kept S w w')
    (hS : ∀ F, HH ND RL st m v x s0 w F → ∀ b, S b → b < w.heap.size → F b)
    (step : ∀ F, HH ND RL st m v x s0 w F → ∃ F', HH ND RL st' m' v' x' s0 w' F' ∧ ∀ b, F' b → b < w'.heap.size ∧ (b < w.heap.size → F b)) : OS wz N R ND RL st' m' v' x' w' := by
  have hf : Fam N (HH ND RL st' m' v' x') w' := h.fam.turn s0 hs0 (fun s hs hne => ⟨by obtain ⟨a, b, c, d⟩ := hsame s hs hne; exact HH.same a b c d, HH.firm _⟩) fun F hF hFN => by
    obtain ⟨F', q1, q2⟩ := step F hF
    exact ⟨S, F', hk, fun b hb hl => .inl (hS F hF b hb hl), q1, q2⟩
  obtain ⟨⟨G, g1, g2, _⟩, hlow⟩ := h.fam
  have hSN : ∀ b, S b → b < w.heap.size → ¬ N b := fun b hb hl => (g2 s0 hs0 b (hS _ (g1 s0 hs0) b hb hl)).1
  have hk' : Kept (fun b => S b ∧ b < w.heap.size) w w' := hk.mono fun b hl hb => ⟨hb, hl⟩
  subst hv
  exact ⟨hf, h.arr.keep hk' (fun hb => hSN _ hb.1 hb.2 h.nR.1) (fun hb => hSN _ hb.1 hb.2 h.nR.2.1), h.kept.trans hk' fun b hb h9 => hSN b h9.1 h9.2 (h.nz b hb), h.nR, h.nz⟩
theorem OS.put0 (h : OS wz N R ND RL st m v x w) (hn : n < 3) (hm : m (2 * n) = 0) (hk : Kept (fun _ => False) w w1) {y : Value} (hy : App nodeE 59 w1 y ND) (hnew : ∀ b, y.ownBlock = some b → w.heap.size ≤ b) :
    OS wz N R ND RL (up st (2 * n) 1) m (up v (2 * n) y) x (w1.setCell ⟨R, n, none⟩ y) := by
  have k2 : Kept (· = R) w1 (w1.setCell ⟨R, n, none⟩ y) := kept_one w1 ⟨R, n, none⟩ y
  have hf : Fam N (HH ND RL (up st (2 * n) 1) m (up v (2 * n) y) x) w1 := h.fam.turn (2 * n) (by omega) (fun s hs hne => ⟨HH.same (up_ne _ _ hne) rfl (up_ne _ _ hne) rfl, HH.firm _⟩) fun F _ _ =>
    ⟨_, fun b => y.ownBlock = some b, hk, fun b hb => hb.elim, by rw [HH.even, up_at, up_at, hm]; exact .inr (.inl ⟨rfl, fun b hb => hb, by simpa using hy⟩), fun b hb => ⟨hy.lt b hb, fun hl => by have := hnew b hb; omega⟩⟩
  refine ⟨hf.still (fun _ _ => HH.firm _) k2 fun b hb _ => by have hb : b = R := hb; rw [hb]; exact h.nR.1, (h.arr.keep hk (fun h => h) (fun h => h)).set0 hn y, (h.kept.trans hk fun _ _ h => h).trans k2 fun b hb h9 => by have h9 : b = R := h9; have := h.nR.2.2; omega, h.nR, h.nz⟩
theorem OS.put1 (h : OS wz N R ND RL st m v x w) (hn : n < 3) (hm : m (2 * n + 1) = 0) (hk : Kept (fun _ => False) w w1) {y : Value} (hy : App runE 61 w1 y RL) (hnew : ∀ b, y.ownBlock = some b → w.heap.size ≤ b) :
    OS wz N R ND RL (up st (2 * n + 1) 1) m (up v (2 * n + 1) y) x (w1.setCell ⟨R + 1, n, none⟩ y) := by
  have k2 : Kept (· = R + 1) w1 (w1.setCell ⟨R + 1, n, none⟩ y) := kept_one w1 ⟨R + 1, n, none⟩ y
  have hf : Fam N (HH ND RL (up st (2 * n + 1) 1) m (up v (2 * n + 1) y) x) w1 := h.fam.turn (2 * n + 1) (by omega) (fun s hs hne => ⟨HH.same (up_ne _ _ hne) rfl (up_ne _ _ hne) rfl, HH.firm _⟩) fun F _ _ =>
    ⟨_, fun b => y.ownBlock = some b, hk, fun b hb => hb.elim, by rw [HH.odd, up_at, up_at, hm]; exact .inr (.inl ⟨rfl, fun b hb => hb, by simpa using hy⟩), fun b hb => ⟨hy.lt b hb, fun hl => by have := hnew b hb; omega⟩⟩
  refine ⟨hf.still (fun _ _ => HH.firm _) k2 fun b hb _ => by have hb : b = R + 1 := hb; rw [hb]; exact h.nR.2.1, (h.arr.keep hk (fun h => h) (fun h => h)).set1 hn y, (h.kept.trans hk fun _ _ h => h).trans k2 fun b hb h9 => by have h9 : b = R + 1 := h9; have := h.nR.2.2; omega, h.nR, h.nz⟩
/-- what a row of the first stage is -/
theorem OS.row0 (h : OS wz N R ND RL st m v x w) (hn : n < 3) (hs : st (2 * n) = 1) : App nodeE 59 w (v (2 * n)) (List.replicate (m (2 * n)) (n1 n) ++ ND.drop (m (2 * n))) ∧ ∀ b, (v (2 * n)).ownBlock = some b → ¬ N b := by
  obtain ⟨⟨G, g1, g2, _⟩, _⟩ := h.fam
  have h0 := g1 (2 * n) (by omega)
  rw [HH.even, hs] at h0
  exact ⟨h0.one.2, fun b hb => (g2 _ (by omega) b (h0.one.1 b hb)).1⟩
theorem OS.row1 (h : OS wz N R ND RL st m v x w) (hn : n < 3) (hs : st (2 * n + 1) = 1) : App runE 61 w (v (2 * n + 1)) (List.replicate (m (2 * n + 1)) (r1 n) ++ RL.drop (m (2 * n + 1))) ∧ ∀ b, (v (2 * n + 1)).ownBlock = some b → ¬ N b := by
  obtain ⟨⟨G, g1, g2, _⟩, _⟩ := h.fam
  have h0 := g1 (2 * n + 1) (by omega)
  rw [HH.odd, hs] at h0
  exact ⟨h0.one.2, fun b hb => (g2 _ (by omega) b (h0.one.1 b hb)).1⟩
theorem repl_set {α : Type} {D : List α} {k : Nat} (h : k < D.length) (y : α) : (List.replicate k y ++ D.drop k).set k y = List.replicate (k + 1) y ++ D.drop (k + 1) := by
  obtain ⟨x, hx⟩ := get_of_lt h
  have hd : D.drop k = x :: D.drop (k + 1) := by rw [List.drop_eq_getElem_cons h, (List.getElem?_eq_some_iff.1 hx).2]
  rw [hd, List.set_append_right _ _ (by simp)]
  simp [List.replicate_succ', List.append_assoc]
theorem repl_len {α : Type} {D : List α} {k : Nat} (h : k ≤ D.length) (y : α) : (List.replicate k y ++ D.drop k).length = D.length := by simp; omega
theorem set_run {w : World} {g cap k : Nat} {X : List Run} {z : Int} (h : OwnAt runE w 61 g cap X) (hk : k < X.length) :
    OwnAt runE (((w.setCell ⟨g, k * 3, none⟩ (.int .i64 0)).setCell ⟨g, k * 3 + 1, none⟩ (.int .i64 0)).setCell ⟨g, k * 3 + 2, none⟩ (.int .i64 z)) 61 g cap (X.set k ⟨⟨0, 0⟩, z⟩) := by
  obtain ⟨x, hx⟩ := get_of_lt hk
  have h1 := h.set1of3 (m := 0) (y := ⟨⟨0, x.id.s⟩, x.c⟩) hx (b := .int .i64 0) (by decide) rfl
  have h2 := h1.set1of3 (i := k) (x := ⟨⟨0, x.id.s⟩, x.c⟩) (m := 1) (y := ⟨⟨0, 0⟩, x.c⟩) (by simp [hk]) (b := .int .i64 0) (by decide) rfl
  have h3 := h2.set1of3 (i := k) (x := ⟨⟨0, 0⟩, x.c⟩) (m := 2) (y := ⟨⟨0, 0⟩, z⟩) (by simp [hk]) (b := .int .i64 z) (by decide) rfl
  rw [List.set_set, List.set_set] at h3
  exact h3
def node6 (w : World) (g k : Nat) (z : Int) : World := (((((w.setCell ⟨g, k * 6, none⟩ (.int .i64 0)).setCell ⟨g, k * 6 + 1, none⟩ (.int .i64 0)).setCell ⟨g, k * 6 + 2, none⟩ (.int .i64 0)).setCell ⟨g, k * 6 + 3, none⟩ (.int .i64 0)).setCell ⟨g, k * 6 + 4, none⟩ (.int .i32 0)).setCell ⟨g, k * 6 + 5, none⟩ (.int .i64 z)
theorem set_node {w : World} {g cap k : Nat} {X : List Nd} {z : Int} (h : OwnAt nodeE w 59 g cap X) (hk : k < X.length) : OwnAt nodeE (node6 w g k z) 59 g cap (X.set k ⟨⟨0, 0⟩, ⟨0, 0⟩, 0, z⟩) := by
  obtain ⟨x, hx⟩ := get_of_lt hk
  have h1 := h.set1of3 (m := 0) (y := ⟨⟨0, x.id.s⟩, x.ref, x.rune, x.st⟩) hx (b := .int .i64 0) (by decide) rfl
  have h2 := h1.set1of3 (i := k) (x := ⟨⟨0, x.id.s⟩, x.ref, x.rune, x.st⟩) (m := 1) (y := ⟨⟨0, 0⟩, x.ref, x.rune, x.st⟩) (by simp [hk]) (b := .int .i64 0) (by decide) rfl
  have h3 := h2.set1of3 (i := k) (x := ⟨⟨0, 0⟩, x.ref, x.rune, x.st⟩) (m := 2) (y := ⟨⟨0, 0⟩, ⟨0, x.ref.s⟩, x.rune, x.st⟩) (by simp [hk]) (b := .int .i64 0) (by decide) rfl
  have h4 := h3.set1of3 (i := k) (x := ⟨⟨0, 0⟩, ⟨0, x.ref.s⟩, x.rune, x.st⟩) (m := 3) (y := ⟨⟨0, 0⟩, ⟨0, 0⟩, x.rune, x.st⟩) (by simp [hk]) (b := .int .i64 0) (by decide) rfl
  have h5 := h4.set1of3 (i := k) (x := ⟨⟨0, 0⟩, ⟨0, 0⟩, x.rune, x.st⟩) (m := 4) (y := ⟨⟨0, 0⟩, ⟨0, 0⟩, 0, x.st⟩) (by simp [hk]) (b := .int .i32 0) (by decide) rfl
  have h6 := h5.set1of3 (i := k) (x := ⟨⟨0, 0⟩, ⟨0, 0⟩, 0, x.st⟩) (m := 5) (y := ⟨⟨0, 0⟩, ⟨0, 0⟩, 0, z⟩) (by simp [hk]) (b := .int .i64 z) (by decide) rfl
  simp only [List.set_set] at h6
  exact h6
theorem node6_kept (w : World) (g k : Nat) (z : Int) : Kept (· = g) w (node6 w g k z) :=
  ((((((Kept.refl (· = g) w).setCell (p := ⟨g, k * 6, none⟩) (fun _ => rfl) _).setCell (p := ⟨g, k * 6 + 1, none⟩) (fun _ => rfl) _).setCell (p := ⟨g, k * 6 + 2, none⟩) (fun _ => rfl) _).setCell (p := ⟨g, k * 6 + 3, none⟩) (fun _ => rfl) _).setCell (p := ⟨g, k * 6 + 4, none⟩) (fun _ => rfl) _).setCell (p := ⟨g, k * 6 + 5, none⟩) (fun _ => rfl) _
/-- an element written over -/
theorem OS.write0 (h : OS wz N R ND RL st m v x w) (hn : n < 3) (hs : st (2 * n) = 1) (hm : m (2 * n) = k) (hk : k < ND.length) {g c : Nat} (hv : v (2 * n) = .slice (some ⟨g, 0, none⟩) ND.length c) :
    OS wz N R ND RL st (up m (2 * n) (k + 1)) v x (node6 w g k (10 + n)) := by
  refine h.turn (2 * n) (by omega) (fun s _ hne => ⟨rfl, up_ne _ _ hne, rfl, rfl⟩) rfl (node6_kept w g k _) (fun F hF b hb _ => ?_) fun F hF => ?_
  · rw [HH.even, hs] at hF
    have hb : b = g := hb
    exact hF.one.1 b (by rw [hv, hb]; rfl)
  · rw [HH.even, hs, hm] at hF
    obtain ⟨f1, f2⟩ := hF.one
    have h9 := f2.write (by rw [hv, repl_len (by omega)]) (D' := List.replicate (k + 1) (n1 n) ++ ND.drop (k + 1)) (by rw [repl_len (by omega), repl_len (by omega)]) (fun cap ho => by
      have h8 := set_node (z := 10 + (n : Int)) ho (by rw [repl_len (by omega)]; exact hk)
      rw [show (⟨⟨0, 0⟩, ⟨0, 0⟩, 0, 10 + (n : Int)⟩ : Nd) = n1 n from rfl, repl_set hk] at h8
      exact h8)
    refine ⟨fun b => (v (2 * n)).ownBlock = some b, ?_, fun b hb => ⟨h9.lt b hb, fun _ => f1 b hb⟩⟩
    rw [HH.even, hs, up_at]
    exact .inr (.inl ⟨rfl, fun b hb => hb, h9⟩)
theorem OS.write1 (h : OS wz N R ND RL st m v x w) (hn : n < 3) (hs : st (2 * n + 1) = 1) (hm : m (2 * n + 1) = k) (hk : k < RL.length) {g c : Nat} (hv : v (2 * n + 1) = .slice (some ⟨g, 0, none⟩) RL.length c) :
    OS wz N R ND RL st (up m (2 * n + 1) (k + 1)) v x (((w.setCell ⟨g, k * 3, none⟩ (.int .i64 0)).setCell ⟨g, k * 3 + 1, none⟩ (.int .i64 0)).setCell ⟨g, k * 3 + 2, none⟩ (.int .i64 (10 + n))) := by
  refine h.turn (2 * n + 1) (by omega) (fun s _ hne => ⟨rfl, up_ne _ _ hne, rfl, rfl⟩) rfl (S := (· = g)) ((((Kept.refl (· = g) w).setCell (p := ⟨g, k * 3, none⟩) (fun _ => rfl) _).setCell (p := ⟨g, k * 3 + 1, none⟩) (fun _ => rfl) _).setCell (p := ⟨g, k * 3 + 2, none⟩) (fun _ => rfl) _) (fun F hF b hb _ => ?_) fun F hF => ?_
  · rw [HH.odd, hs] at hF
    have hb : b = g := hb
    exact hF.one.1 b (by rw [hv, hb]; rfl)
  · rw [HH.odd, hs, hm] at hF
    obtain ⟨f1, f2⟩ := hF.one
    have h9 := f2.write (by rw [hv, repl_len (by omega)]) (D' := List.replicate (k + 1) (r1 n) ++ RL.drop (k + 1)) (by rw [repl_len (by omega), repl_len (by omega)]) (fun cap ho => by
      have h8 := set_run (z := 10 + (n : Int)) ho (by rw [repl_len (by omega)]; exact hk)
      rw [show (⟨⟨0, 0⟩, 10 + (n : Int)⟩ : Run) = r1 n from rfl, repl_set hk] at h8
      exact h8)
    refine ⟨fun b => (v (2 * n + 1)).ownBlock = some b, ?_, fun b hb => ⟨h9.lt b hb, fun _ => f1 b hb⟩⟩
    rw [HH.odd, hs, up_at]
    exact .inr (.inl ⟨rfl, fun b hb => hb, h9⟩)
/-- the second pair of arrays -/
structure OX (wz : World) (N : Nat → Prop) (R Q : Nat) (ND : List Nd) (RL : List Run) (st m : Nat → Nat) (v x : Nat → Value) (w : World) : Prop where
  os : OS wz N R ND RL st m v x w
  arx : Arr w Q x
  nQ : N Q ∧ N (Q + 1) ∧ wz.heap.size ≤ Q ∧ R + 1 < Q
theorem OX.still (h : OX wz N R Q ND RL st m v x w) (hk : Kept (fun _ => False) w w') : OX wz N R Q ND RL st m v x w' := ⟨h.os.still hk, h.arx.keep hk (fun h => h) (fun h => h), h.nQ⟩
theorem OS.arrQ (h : OS wz N R ND RL st m v x w) (hN : N Q) (hQ : R + 1 < Q) (hz : wz.heap.size ≤ Q) (y : Value) : OS wz N R ND RL st m v x (w.setCell ⟨Q, n, none⟩ y) := by
  have k2 : Kept (· = Q) w (w.setCell ⟨Q, n, none⟩ y) := kept_one w ⟨Q, n, none⟩ y
  exact ⟨h.fam.still (fun _ _ => HH.firm _) k2 fun b hb _ => by have hb : b = Q := hb; rw [hb]; exact hN, h.arr.keep k2 (fun h => by have h : R = Q := h; omega) (fun h => by have h : R + 1 = Q := h; omega), h.kept.trans k2 fun b hb h9 => by have h9 : b = Q := h9; omega, h.nR, h.nz⟩
/-- a row is gone on from -/
theorem OX.go0 (h : OX wz N R Q ND RL st m v x w) (hn : n < 3) (hs : st (2 * n) = 1) (hm : m (2 * n) = ND.length) : OX wz N R Q ND RL (up st (2 * n) 2) (up m (2 * n) 0) v (up x (2 * n) (v (2 * n))) (w.setCell ⟨Q, n, none⟩ (v (2 * n))) := by
  have h1 : OS wz N R ND RL (up st (2 * n) 2) (up m (2 * n) 0) v (up x (2 * n) (v (2 * n))) w := h.os.turn (2 * n) (by omega) (fun s _ hne => ⟨up_ne _ _ hne, up_ne _ _ hne, rfl, up_ne _ _ hne⟩) rfl (Kept.refl (fun _ => False) w) (fun F hF b hb _ => hb.elim) fun F hF => by
    rw [HH.even, hs, hm] at hF
    obtain ⟨f1, f2⟩ := hF.one
    rw [List.drop_length, List.append_nil] at f2
    refine ⟨fun b => (v (2 * n)).ownBlock = some b, ?_, fun b hb => ⟨f2.lt b hb, fun _ => f1 b hb⟩⟩
    rw [HH.even, up_at, up_at, up_at]
    refine .inr (.inr ⟨rfl, fun b hb => hb, fun b hb => hb, ?_, f2.slAt, by simpa using f2⟩)
    have := f2.form
    rwa [List.length_replicate] at this
  exact ⟨h1.arrQ h.nQ.1 h.nQ.2.2.2 h.nQ.2.2.1 _, h.arx.set0 hn _, h.nQ⟩
theorem OX.go1 (h : OX wz N R Q ND RL st m v x w) (hn : n < 3) (hs : st (2 * n + 1) = 1) (hm : m (2 * n + 1) = RL.length) : OX wz N R Q ND RL (up st (2 * n + 1) 2) (up m (2 * n + 1) 0) v (up x (2 * n + 1) (v (2 * n + 1))) (w.setCell ⟨Q + 1, n, none⟩ (v (2 * n + 1))) := by
  have h1 : OS wz N R ND RL (up st (2 * n + 1) 2) (up m (2 * n + 1) 0) v (up x (2 * n + 1) (v (2 * n + 1))) w := h.os.turn (2 * n + 1) (by omega) (fun s _ hne => ⟨up_ne _ _ hne, up_ne _ _ hne, rfl, up_ne _ _ hne⟩) rfl (Kept.refl (fun _ => False) w) (fun F hF b hb _ => hb.elim) fun F hF => by
    rw [HH.odd, hs, hm] at hF
    obtain ⟨f1, f2⟩ := hF.one
    rw [List.drop_length, List.append_nil] at f2
    refine ⟨fun b => (v (2 * n + 1)).ownBlock = some b, ?_, fun b hb => ⟨f2.lt b hb, fun _ => f1 b hb⟩⟩
    rw [HH.odd, up_at, up_at, up_at]
    refine .inr (.inr ⟨rfl, fun b hb => hb, fun b hb => hb, ?_, f2.slAt, by simpa using f2⟩)
    have := f2.form
    rwa [List.length_replicate] at this
  exact ⟨h1.arrQ h.nQ.2.1 (by have := h.nQ.2.2.2; omega) (by have := h.nQ.2.2.1; omega) _, h.arx.set1 hn _, h.nQ⟩
theorem OX.long0 (h : OX wz N R Q ND RL st m v x w) (hn : n < 3) (hs : st (2 * n) = 2) : App nodeE 59 w (x (2 * n)) (List.replicate ND.length (n1 n) ++ List.replicate (m (2 * n)) (n2 n)) ∧ SlAt nodeE w (v (2 * n)) (List.replicate ND.length (n1 n)) ∧ ∀ b, (x (2 * n)).ownBlock = some b → ¬ N b := by
  obtain ⟨⟨G, g1, g2, _⟩, _⟩ := h.os.fam
  have h0 := g1 (2 * n) (by omega)
  rw [HH.even, hs] at h0
  obtain ⟨f1, f2, f3, f4, f5⟩ := h0.two
  exact ⟨f5, f4, fun b hb => (g2 _ (by omega) b (f2 b hb)).1⟩
theorem OX.long1 (h : OX wz N R Q ND RL st m v x w) (hn : n < 3) (hs : st (2 * n + 1) = 2) : App runE 61 w (x (2 * n + 1)) (List.replicate RL.length (r1 n) ++ List.replicate (m (2 * n + 1)) (r2 n)) ∧ SlAt runE w (v (2 * n + 1)) (List.replicate RL.length (r1 n)) ∧ ∀ b, (x (2 * n + 1)).ownBlock = some b → ¬ N b := by
  obtain ⟨⟨G, g1, g2, _⟩, _⟩ := h.os.fam
  have h0 := g1 (2 * n + 1) (by omega)
  rw [HH.odd, hs] at h0
  obtain ⟨f1, f2, f3, f4, f5⟩ := h0.two
  exact ⟨f5, f4, fun b hb => (g2 _ (by omega) b (f2 b hb)).1⟩
theorem OX.turned {y : Value} (h : OX wz N R Q ND RL st m v x w) (hx : ∀ b, y.ownBlock = some b → ¬ N b) (hg : Kept (fun b => y.ownBlock = some b) w w') : Arr w' Q x :=
  h.arx.keep hg (fun hb => hx _ hb h.nQ.1) (fun hb => hx _ hb h.nQ.2.1)
/-- one more -/
theorem OX.app0 (h : OX wz N R Q ND RL st m v x w) (hn : n < 3) (hs : st (2 * n) = 2) (hm : m (2 * n) = j) {X' : Value} (ha : App nodeE 59 w' X' ((List.replicate ND.length (n1 n) ++ List.replicate j (n2 n)) ++ [n2 n])) (hg : Grow2 w w' (x (2 * n)) X') :
    OX wz N R Q ND RL st (up m (2 * n) (j + 1)) v (up x (2 * n) X') (w'.setCell ⟨Q, n, none⟩ X') := by
  have hk := hg.kept
  rw [List.append_assoc, ← List.replicate_succ'] at ha
  have h1 : OS wz N R ND RL st (up m (2 * n) (j + 1)) v (up x (2 * n) X') w' := h.os.turn (2 * n) (by omega) (fun s _ hne => ⟨rfl, up_ne _ _ hne, rfl, up_ne _ _ hne⟩) rfl hk (fun F hF b hb _ => by rw [HH.even, hs] at hF; exact hF.two.2.1 b hb) fun F hF => by
    rw [HH.even, hs, hm] at hF
    obtain ⟨f1, f2, f3, f4, f5⟩ := hF.two
    have f3' : v (2 * n) = .slice none 0 0 ∨ ∃ g cap, v (2 * n) = .slice (some ⟨g, 0, none⟩) (List.replicate ND.length (n1 n)).length cap := by rw [List.length_replicate]; exact f3
    have h5 := grow2_read f4 f3' ha hg
    refine ⟨fun b => (v (2 * n)).ownBlock = some b ∧ b < w'.heap.size ∨ X'.ownBlock = some b, ?_, fun b hb => ?_⟩
    · rw [HH.even, hs, up_at, up_at]
      refine .inr (.inr ⟨rfl, fun b hb => ?_, fun b hb => .inr hb, f3, h5, ha⟩)
      by_cases hlt : b < w'.heap.size
      · exact .inl ⟨hb, hlt⟩
      · have hlt2 : b < w.heap.size := by
          obtain ⟨⟨G, g1, g2, _⟩, _⟩ := h.os.fam
          have h0 := g1 (2 * n) (by omega)
          rw [HH.even, hs] at h0
          exact (g2 _ (by omega) b (h0.two.1 b hb)).2
        have := hk.size
        omega
    · rcases hb with hb | hb
      · exact ⟨hb.2, fun _ => f1 b hb.1⟩
      · refine ⟨ha.lt b hb, fun hl => ?_⟩
        rcases hg with ⟨e, _⟩ | ⟨e, _⟩
        · exact f2 b (by rw [← e]; exact hb)
        · have := e b hb; omega
  exact ⟨h1.arrQ h.nQ.1 h.nQ.2.2.2 h.nQ.2.2.1 _, (h.turned (h.long0 hn hs).2.2 hk).set0 hn _, h.nQ⟩
theorem OX.app1 (h : OX wz N R Q ND RL st m v x w) (hn : n < 3) (hs : st (2 * n + 1) = 2) (hm : m (2 * n + 1) = j) {X' : Value} (ha : App runE 61 w' X' ((List.replicate RL.length (r1 n) ++ List.replicate j (r2 n)) ++ [r2 n])) (hg : Grow2 w w' (x (2 * n + 1)) X') :
    OX wz N R Q ND RL st (up m (2 * n + 1) (j + 1)) v (up x (2 * n + 1) X') (w'.setCell ⟨Q + 1, n, none⟩ X') := by
  have hk := hg.kept
  rw [List.append_assoc, ← List.replicate_succ'] at ha
  have h1 : OS wz N R ND RL st (up m (2 * n + 1) (j + 1)) v (up x (2 * n + 1) X') w' := h.os.turn (2 * n + 1) (by omega) (fun s _ hne => ⟨rfl, up_ne _ _ hne, rfl, up_ne _ _ hne⟩) rfl hk (fun F hF b hb _ => by rw [HH.odd, hs] at hF; exact hF.two.2.1 b hb) fun F hF => by
    rw [HH.odd, hs, hm] at hF
    obtain ⟨f1, f2, f3, f4, f5⟩ := hF.two
    have f3' : v (2 * n + 1) = .slice none 0 0 ∨ ∃ g cap, v (2 * n + 1) = .slice (some ⟨g, 0, none⟩) (List.replicate RL.length (r1 n)).length cap := by rw [List.length_replicate]; exact f3
    have h5 := grow2_read f4 f3' ha hg
    refine ⟨fun b => (v (2 * n + 1)).ownBlock = some b ∧ b < w'.heap.size ∨ X'.ownBlock = some b, ?_, fun b hb => ?_⟩
    · rw [HH.odd, hs, up_at, up_at]
      refine .inr (.inr ⟨rfl, fun b hb => ?_, fun b hb => .inr hb, f3, h5, ha⟩)
      by_cases hlt : b < w'.heap.size
      · exact .inl ⟨hb, hlt⟩
      · have hlt2 : b < w.heap.size := by
          obtain ⟨⟨G, g1, g2, _⟩, _⟩ := h.os.fam
          have h0 := g1 (2 * n + 1) (by omega)
          rw [HH.odd, hs] at h0
          exact (g2 _ (by omega) b (h0.two.1 b hb)).2
        have := hk.size
        omega
    · rcases hb with hb | hb
      · exact ⟨hb.2, fun _ => f1 b hb.1⟩
      · refine ⟨ha.lt b hb, fun hl => ?_⟩
        rcases hg with ⟨e, _⟩ | ⟨e, _⟩
        · exact f2 b (by rw [← e]; exact hb)
        · have := e b hb; omega
  exact ⟨h1.arrQ h.nQ.2.1 (by have := h.nQ.2.2.2; omega) (by have := h.nQ.2.2.1; omega) _, (h.turned (h.long1 hn hs).2.2 hk).set1 hn _, h.nQ⟩
end
end Go.Proofs.Ytlafodnaifghcaa.Tr
