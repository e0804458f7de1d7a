/- A document in memory: who stands behind whom. cmp.Compare, cmp.Or; stamp.Compare, is, After; the document's. A document in memory, whole: its blocks, its map, its rows. may, list, higher. (*tree.Tree).all: the iterator it hands back. -/
import Derived.Test.YtlafodnaifghcaaGreatH3
import Derived.Test.YtlafodnaifghcaaGreatH5
import Derived.Test.YtlafodnaifghcaaGreatChecked
import Derived.Test.YtlafodnaifghcaaGreatH4
import Derived.Test.YtlafodnaifghcaaGreatH1
import Derived.BigQuiet
import Derived.Deep.QuietTactic
import Derived.Deep.RegionHeld3
import Derived.WalkSpells
import Derived.Lib.Hide
import Derived.Lib.SliceRun
import Derived.WalkKit
import Derived.ProofKit
import Derived.OpenShut
import Derived.ChangeOld
import Derived.Below
import Derived.StillTailTactics
import Derived.Deep.DeepCutAuto
namespace Go.Proofs.YtlafodnaifghcaaGreat.Tr
open Go.RowKit Go.Proofs.YtlafodnaifghcaaGreat.St
/-- a slice's three numbers -/
structure Rw where
  a : Option Addr
  n : Nat
  c : Nat
def Rw.v (s : Rw) : Value := .slice s.a s.n s.c
def rowE : Enc Rw := ⟨1, fun s => [s.v], fun _ => rfl, by decide, fun s u hu => by rw [List.mem_singleton.1 hu]; rfl⟩
def ptrE : Enc Nat := ⟨1, fun b => [.pointer (some ⟨b, 0, none⟩)], fun _ => rfl, by decide, fun s u hu => by rw [List.mem_singleton.1 hu]; rfl⟩
def ndC (n : Nd) : List Value := [.int .i64 n.id.t, .int .i64 n.id.s, .int .i64 n.ref.t, .int .i64 n.ref.s, .int .i32 n.rune, .int .i64 n.st]
def nodeE : Enc Nd := ⟨6, ndC, fun _ => rfl, by decide, fun n u hu => by
  simp [ndC] at hu
  rcases hu with rfl | rfl | rfl | rfl | rfl | rfl <;> rfl⟩
/-- the rows of those that stand behind -/
structure Shape (w : World) (g : Nat) (L : List Nd) (A : ID → Nat) (S : ID → Rw) : Prop where
  root : w.cell? ⟨g, 0, none⟩ = some (S ID.zero).v
  beh : ∀ n ∈ L, w.cell? ⟨A n.id, 6, none⟩ = some (S n.id).v
  row : ∀ r, r = ID.zero ∨ r ∈ ids L → SlAt ptrE w (S r).v ((kids L r).map (fun n => A n.id))
theorem ex_least {P : Nat → Prop} : ∀ n, P n → ∃ m, P m ∧ ∀ k, P k → m ≤ k := by
  intro n
  induction n using Nat.strongRecOn with
  | ind n ih =>
    intro hn
    by_cases h : ∃ k, k < n ∧ P k
    · obtain ⟨k, hk, hP⟩ := h
      exact ih k hk hP
    · exact ⟨n, hn, fun k hk => Nat.le_of_not_lt fun hl => h ⟨k, hl, hk⟩⟩
open Classical in
/-- the least number of a kind; 0: there is none -/
noncomputable def least (P : Nat → Prop) : Nat := if h : ∃ m, P m ∧ ∀ k, P k → m ≤ k then h.choose else 0
theorem least_spec {P : Nat → Prop} (h : ∃ n, P n) : P (least P) := by
  obtain ⟨n, hn⟩ := h
  have h2 := ex_least n hn
  unfold least
  rw [dif_pos h2]
  exact h2.choose_spec.1
theorem least_le {P : Nat → Prop} {n : Nat} (h : P n) : least P ≤ n := by
  have h2 := ex_least n h
  unfold least
  rw [dif_pos h2]
  exact h2.choose_spec.2 n h
/-- a slice of pointers without its first -/
theorem SlAt.rest {w : World} {b o n c : Nat} {x : Nat} {L : List Nat} (h : SlAt ptrE w (.slice (some ⟨b, o, none⟩) (n + 1) c) (x :: L)) {o' : Nat} (ho : L = [] ∨ o' = o + 1) : SlAt ptrE w (.slice (some ⟨b, o', none⟩) n (c - 1)) L := by
  rcases h with ⟨h, _⟩ | ⟨y, d, h, h1, h2, h3, h4⟩
  · cases h
  · injection h with e1 e2 e3
    injection e1 with e1
    subst e1 e3
    have hn : n = L.length := by simpa using e2
    refine .inr ⟨⟨b, o', none⟩, c - 1, by rw [hn], by rw [List.length_cons] at h1; omega, by omega, fun _ => rfl, fun i z hz j u hu => ?_⟩
    rcases ho with rfl | rfl
    · simp at hz
    · have h5 := h4 (i + 1) z (by simpa using hz) j u hu
      have hk : ptrE.k = 1 := rfl
      rw [hk] at h5 ⊢
      show w.cell? ⟨b, o + 1 + (i * 1 + j), none⟩ = some u
      rw [show o + 1 + (i * 1 + j) = o + ((i + 1) * 1 + j) by omega]
      exact h5
end Go.Proofs.YtlafodnaifghcaaGreat.Tr
namespace Go.Proofs.YtlafodnaifghcaaGreat.St
open Go.RowKit

theorem nan_any (x : Int) (w : World) : Calls Tryz.prog 104 #[.int .i64 x] w fun e w' => e = .returned (.bool false) ∧ w = w' := by
  go_enter Tryz.func104, Tryz.ntmps104
  go_wp2
  go_ret
  exact ⟨by simp, rfl⟩
theorem ccmp_any (x y : Int) (w : World) : Calls Tryz.prog 79 #[.int .i64 x, .int .i64 y] w fun e w' => e = .returned (.int .i64 (cmpI x y)) ∧ w = w' := by
  by_cases h : x < y
  · have e : cmpI x y = -1 := by unfold cmpI; rw [if_pos h]
    rw [e]
    go_enter Tryz.func79, Tryz.ntmps79
    go_wp2_with (go_at_call 104; refine (nan_any _ _).mono ?_; rintro e w' ⟨rfl, rfl⟩)
    go_ret
    exact ⟨rfl, rfl⟩
  · by_cases h2 : y < x
    · have e : cmpI x y = 1 := by unfold cmpI; rw [if_neg h, if_pos h2]
      rw [e]
      go_enter Tryz.func79, Tryz.ntmps79
      go_wp2_with (go_at_call 104; refine (nan_any _ _).mono ?_; rintro e w' ⟨rfl, rfl⟩)
      go_ret
      exact ⟨rfl, rfl⟩
    · have e : cmpI x y = 0 := by unfold cmpI; rw [if_neg h, if_neg h2]
      rw [e]
      go_enter Tryz.func79, Tryz.ntmps79
      go_wp2_with (go_at_call 104; refine (nan_any _ _).mono ?_; rintro e w' ⟨rfl, rfl⟩)
      go_ret
      exact ⟨rfl, rfl⟩
theorem or2 (g : Nat) (x y : Int) (w : World) (h0 : w.cell? ⟨g, 0, none⟩ = some (.int .i64 x)) (h1 : w.cell? ⟨g, 1, none⟩ = some (.int .i64 y)) :
    Calls Tryz.prog 78 #[.slice (some ⟨g, 0, none⟩) 2 2] w fun e w' => e = .returned (.int .i64 (orL [x, y])) ∧ w = w' := by
  go_enter Tryz.func78, Tryz.ntmps78
  go_wp2
  go_loop [8] (fun i => ∃ k : Nat, k ≤ 2 ∧ i = .int .i64 k ∧ orL [x, y] = orL ([x, y].drop k)) (fun i => 2 - (intOf i).toNat)
  case atStart => exact ⟨0, by omega, rfl, rfl⟩
  case round =>
    obtain ⟨k, hk, rfl, he⟩ := hrel
    have E := Lib.hid he
    clear he
    rcases (show k = 0 ∨ k = 1 ∨ k = 2 by omega) with rfl | rfl | rfl
    · by_cases hx : x = 0
      · subst hx
        go_wp2
        go_round
        case rel => exact ⟨1, by omega, rfl, rfl⟩
        case measure => simp [intOf]
      · have hxb : (x != 0) = true := by simpa using hx
        go_wp2
        go_ret
        exact ⟨by simp [orL, hx], rfl⟩
    · by_cases hy : y = 0
      · subst hy
        go_wp2
        go_round
        case rel => exact ⟨2, by omega, rfl, E.out.trans (by simp [orL])⟩
        case measure => simp [intOf]
      · have hyb : (y != 0) = true := by simpa using hy
        go_wp2
        go_ret
        exact ⟨by rw [E.out]; simp [orL, hy], rfl⟩
    · go_wp2
      go_ret
      exact ⟨by rw [E.out]; rfl, rfl⟩

def idV (a : ID) : Value := .agg #[.int .i64 a.t, .int .i64 a.s]
def runV (r : Run) : Value := .agg #[.int .i64 r.id.t, .int .i64 r.id.s, .int .i64 r.c]
theorem compare_any (a b : ID) (w : World) : Calls Tryz.prog 46 #[idV a, idV b] w fun e w' => e = .returned (.int .i64 (a.cmp b)) ∧ Grew w w' := by
  obtain ⟨at_, as_⟩ := a
  obtain ⟨bt, bs⟩ := b
  show Calls _ _ #[.agg #[.int .i64 at_, .int .i64 as_], .agg #[.int .i64 bt, .int .i64 bs]] _ _
  unfold ID.cmp
  have b1 := Blk.alloc (Blk.new w 37 #[.int .i64 at_, .int .i64 as_]) (.cells #[.int .i64 bt, .int .i64 bs] 37)
  have b2 := Blk.new (w.alloc (.cells #[.int .i64 at_, .int .i64 as_] 37)) 37 #[.int .i64 bt, .int .i64 bs]
  have c1 : _ = some (Value.int .i64 at_) := b1.cell' (i := 0) rfl
  have c2 : _ = some (Value.int .i64 as_) := b1.cell' (i := 1) rfl
  have c3 : _ = some (Value.int .i64 bt) := b2.cell' (i := 0) rfl
  have c4 : _ = some (Value.int .i64 bs) := b2.cell' (i := 1) rfl
  have hg := Grew.alloc (Grew.alloc (Grew.refl w) (.cells #[.int .i64 at_, .int .i64 as_] 37)) (.cells #[.int .i64 bt, .int .i64 bs] 37)
  rw [World.size_alloc] at c3 c4
  clear b1 b2
  go_enter Tryz.func46, Tryz.ntmps46
  go_wp2_with fail
  obtain ⟨W, hW, hz⟩ : ∃ W, ((w.alloc (.cells #[.int .i64 at_, .int .i64 as_] 37)).alloc (.cells #[.int .i64 bt, .int .i64 bs] 37)) = W ∧ W.heap.size = w.heap.size + 2 := ⟨_, rfl, by simp⟩
  rw [hW] at c1 c2 c3 c4 hg ⊢
  clear hW
  have Z := Lib.hid hz
  clear hz
  go_region_held3 (fun w' => w'.cell? ⟨w.heap.size, 0, none⟩ = some (.int .i64 at_) ∧ w'.cell? ⟨w.heap.size, 1, none⟩ = some (.int .i64 as_) ∧ w'.cell? ⟨w.heap.size + 1, 0, none⟩ = some (.int .i64 bt) ∧ w'.cell? ⟨w.heap.size + 1, 1, none⟩ = some (.int .i64 bs)) (first | exact ⟨c1, c2, c3, c4⟩ | exact ⟨Lib.cell?_alloc_some _ c1, Lib.cell?_alloc_some _ c2, Lib.cell?_alloc_some _ c3, Lib.cell?_alloc_some _ c4⟩)
    (first
      | (go_simp; go_at_call 79; refine (ccmp_any _ _ _).mono ?_; rintro e w' ⟨rfl, rfl⟩)
      | (go_simp; go_at_call 78; refine (or2 W.heap.size (cmpI at_ bt) (cmpI as_ bs) (W.alloc (.cells #[.int .i64 (cmpI at_ bt), .int .i64 (cmpI as_ bs)] 3)).drew ((Blk.new W 3 #[.int .i64 (cmpI at_ bt), .int .i64 (cmpI as_ bs)]).cell' (i := 0) rfl) ((Blk.new W 3 #[.int .i64 (cmpI at_ bt), .int .i64 (cmpI as_ bs)]).cell' (i := 1) rfl)).mono ?_; rintro e w' ⟨rfl, rfl⟩))
  go_wp2
  go_ret
  exact ⟨rfl, (hg.alloc _).drew⟩

/-! ### is, IsID, After -/
theorem is_core (t s : Int) (w : World) : Calls Tryz.prog 87 #[.agg #[.int .i64 t, .int .i64 s]] w fun e w' => e = .returned (.bool (isB ⟨t, s⟩)) ∧ Grew w w' := by
  by_cases h1 : 1 ≤ t
  · by_cases h2 : t ≤ 2147483647
    · by_cases h3 : 1 ≤ s
      · by_cases h4 : s ≤ 16
        · have e : isB ⟨t, s⟩ = true := by simp [isB, ID.Is, h1, h2, h3, h4]
          rw [e]
          go_enter Tryz.func87, Tryz.ntmps87
          go_wp2
          go_ret
          exact ⟨rfl, (Grew.refl w).alloc _⟩
        · have e : isB ⟨t, s⟩ = false := by simp [isB, ID.Is, h4]
          rw [e]
          go_enter Tryz.func87, Tryz.ntmps87
          go_wp2
          go_ret
          exact ⟨rfl, (Grew.refl w).alloc _⟩
      · have e : isB ⟨t, s⟩ = false := by simp [isB, ID.Is, h3]
        rw [e]
        go_enter Tryz.func87, Tryz.ntmps87
        go_wp2
        go_ret
        exact ⟨rfl, (Grew.refl w).alloc _⟩
    · have e : isB ⟨t, s⟩ = false := by simp [isB, ID.Is, h2]
      rw [e]
      go_enter Tryz.func87, Tryz.ntmps87
      go_wp2
      go_ret
      exact ⟨rfl, (Grew.refl w).alloc _⟩
  · have e : isB ⟨t, s⟩ = false := by simp [isB, ID.Is, h1]
    rw [e]
    go_enter Tryz.func87, Tryz.ntmps87
    go_wp2
    go_ret
    exact ⟨rfl, (Grew.refl w).alloc _⟩
theorem is_any (a : ID) (w : World) : Calls Tryz.prog 87 #[idV a] w fun e w' => e = .returned (.bool (isB a)) ∧ Grew w w' := is_core a.t a.s w
theorem is1_any (a : ID) (w : World) : Calls Tryz.prog 91 #[idV a] w fun e w' => e = .returned (.bool (!isB a)) ∧ Grew w w' := by
  obtain ⟨t, s⟩ := a
  show Calls _ _ #[.agg #[.int .i64 t, .int .i64 s]] _ _
  have hg := Grew.alloc (Grew.refl w) (.cells #[.int .i64 t, .int .i64 s] 37)
  generalize hb : isB ⟨t, s⟩ = b
  have hc := is_core t s (w.alloc (.cells #[.int .i64 t, .int .i64 s] 37))
  rw [hb] at hc
  clear hb
  go_enter Tryz.func91, Tryz.ntmps91
  go_wp2_with fail
  refine hc.mono ?_
  rintro e w' ⟨rfl, hg2⟩
  go_wp2_with fail
  go_ret
  exact ⟨rfl, hg.trans hg2⟩
theorem isid_core (t s : Int) (w : World) : Calls Tryz.prog 116 #[.agg #[.int .i64 t, .int .i64 s]] w fun e w' => e = .returned (.bool (isB ⟨t, s⟩)) ∧ Grew w w' := by
  by_cases h1 : 1 ≤ t
  · skip
    by_cases h2 : t ≤ 2147483647
    · skip
      by_cases h3 : 1 ≤ s
      · skip
        by_cases h4 : s ≤ 16
        · skip
          have e : isB ⟨t, s⟩ = true := by simp [isB, ID.Is, h1, h2, h3, h4]
          rw [e]
          go_enter Tryz.func116, Tryz.ntmps116
          go_wp2
          go_ret
          exact ⟨rfl, (Grew.refl w).alloc _⟩
        · skip
          have e : isB ⟨t, s⟩ = false := by simp [isB, ID.Is, h4]
          rw [e]
          go_enter Tryz.func116, Tryz.ntmps116
          go_wp2
          go_ret
          exact ⟨rfl, (Grew.refl w).alloc _⟩
      · skip
        have e : isB ⟨t, s⟩ = false := by simp [isB, ID.Is, h3]
        rw [e]
        go_enter Tryz.func116, Tryz.ntmps116
        go_wp2
        go_ret
        exact ⟨rfl, (Grew.refl w).alloc _⟩
    · skip
      have e : isB ⟨t, s⟩ = false := by simp [isB, ID.Is, h2]
      rw [e]
      go_enter Tryz.func116, Tryz.ntmps116
      go_wp2
      go_ret
      exact ⟨rfl, (Grew.refl w).alloc _⟩
  · skip
    have e : isB ⟨t, s⟩ = false := by simp [isB, ID.Is, h1]
    rw [e]
    go_enter Tryz.func116, Tryz.ntmps116
    go_wp2
    go_ret
    exact ⟨rfl, (Grew.refl w).alloc _⟩
theorem isid_any (a : ID) (w : World) : Calls Tryz.prog 116 #[idV a] w fun e w' => e = .returned (.bool (isB a)) ∧ Grew w w' := isid_core a.t a.s w

theorem isB_true {a : ID} (h : isB a = true) : a.Is := by simpa [isB] using h
theorem after_core (t s n : Int) (hn : -9223372036854775808 ≤ n) (hn2 : n ≤ 9223372036854775807) (w : World) : Calls Tryz.prog 57 #[.agg #[.int .i64 t, .int .i64 s], .int .i64 n] w fun e w' => e = .returned (idV (ID.after ⟨t, s⟩ n)) ∧ Grew w w' := by
  have hg := Grew.alloc (Grew.alloc (Grew.refl w) (.cells #[.int .i64 t, .int .i64 s] 37)) (.cells #[.int .i64 0, .int .i64 0] 37)
  have hb0 := Blk.alloc (Blk.new w 37 #[.int .i64 t, .int .i64 s]) (.cells #[.int .i64 0, .int .i64 0] 37)
  have hb1 := Blk.new (w.alloc (.cells #[.int .i64 t, .int .i64 s] 37)) 37 #[.int .i64 0, .int .i64 0]
  rw [World.size_alloc] at hb1
  have hc := is_core t s ((w.alloc (.cells #[.int .i64 t, .int .i64 s] 37)).alloc (.cells #[.int .i64 0, .int .i64 0] 37))
  have H0 := Lib.hid hb0
  have H1 := Lib.hid hb1
  clear hb0 hb1
  cases hb : isB ⟨t, s⟩
  · have e : ID.after ⟨t, s⟩ n = ID.zero := by unfold ID.after; rw [if_neg]; intro h; simp [isB, h.1] at hb
    rw [e]
    rw [hb] at hc
    clear hb e
    go_enter Tryz.func57, Tryz.ntmps57
    go_wp2_with fail
    refine hc.mono ?_
    rintro e w' ⟨rfl, hg2⟩
    have hb1 := hg2.box H1.out
    have c0 : _ = some (Value.int .i64 0) := hb1.cell' (i := 0) rfl
    have c1 : _ = some (Value.int .i64 0) := hb1.cell' (i := 1) rfl
    have f0 := hb1.frozen 0
    have f1 := hb1.frozen 1
    have G := Lib.hid (hg.trans hg2)
    clear hg hg2 hb1 hc
    go_wp2_with fail
    refine bodyPost_ret (v := .agg #[.int .i64 0, .int .i64 0]) (by simp [results, Tryz.results57, go_sem, c0, c1]) rfl ⟨rfl, (G.out.setCell (by simp) _).setCell (by simp) _⟩
  · have hI := isB_true hb
    unfold ID.Is at hI
    obtain ⟨i1, i2, i3, i4⟩ := hI
    simp only at i1 i2 i3 i4
    have hIs := Lib.hid (isB_true hb)
    rw [hb] at hc
    clear hb
    by_cases hx : 0 ≤ n ∧ n ≤ 2147483647 - t
    · obtain ⟨x1, x2⟩ := hx
      have e : ID.after ⟨t, s⟩ n = ⟨t + n, s⟩ := by unfold ID.after; rw [if_pos ⟨hIs.out, x1, x2⟩]
      rw [e]
      clear e
      go_enter Tryz.func57, Tryz.ntmps57
      go_wp2_with fail
      refine hc.mono ?_
      rintro e w' ⟨rfl, hg2⟩
      have hb0 := hg2.box H0.out
      have hb1 := hg2.box H1.out
      have d0 : _ = some (Value.int .i64 t) := hb0.cell' (i := 0) rfl
      have d1 : _ = some (Value.int .i64 s) := hb0.cell' (i := 1) rfl
      have e0 := hb0.frozen 0
      have e1 := hb0.frozen 1
      have c0 : _ = some (Value.int .i64 0) := hb1.cell' (i := 0) rfl
      have c1 : _ = some (Value.int .i64 0) := hb1.cell' (i := 1) rfl
      have f0 := hb1.frozen 0
      have f1 := hb1.frozen 1
      have G := Lib.hid (hg.trans hg2)
      clear hg hg2 hb1 hb0 hc
      go_wp2_with fail
      refine bodyPost_ret (v := .agg #[.int .i64 (t + n), .int .i64 s]) (by simp [results, Tryz.results57, go_sem, c0, c1]) rfl ⟨rfl, ((G.out.setCell (by simp) _).setCell (by simp) _).setCell (by simp) _⟩
    · have e : ID.after ⟨t, s⟩ n = ID.zero := by unfold ID.after; rw [if_neg]; intro h; exact hx ⟨h.2.1, h.2.2⟩
      rw [e]
      clear e
      rcases (show n < 0 ∨ (0 ≤ n ∧ 2147483647 - t < n) by omega) with x1 | ⟨x1, x2⟩
      all_goals
        go_enter Tryz.func57, Tryz.ntmps57
        go_wp2_with fail
        refine hc.mono ?_
        rintro e w' ⟨rfl, hg2⟩
        have hb0 := hg2.box H0.out
        have hb1 := hg2.box H1.out
        have d0 : _ = some (Value.int .i64 t) := hb0.cell' (i := 0) rfl
        have c0 : _ = some (Value.int .i64 0) := hb1.cell' (i := 0) rfl
        have c1 : _ = some (Value.int .i64 0) := hb1.cell' (i := 1) rfl
        have f0 := hb1.frozen 0
        have f1 := hb1.frozen 1
        have G := Lib.hid (hg.trans hg2)
        clear hg hg2 hb1 hb0 hc
        go_wp2_with fail
        refine bodyPost_ret (v := .agg #[.int .i64 0, .int .i64 0]) (by simp [results, Tryz.results57, go_sem, c0, c1]) rfl ⟨rfl, (G.out.setCell (by simp) _).setCell (by simp) _⟩
theorem after_any (a : ID) (n : Int) (hn : -9223372036854775808 ≤ n) (hn2 : n ≤ 9223372036854775807) (w : World) : Calls Tryz.prog 57 #[idV a, .int .i64 n] w fun e w' => e = .returned (idV (a.after n)) ∧ Grew w w' := after_core a.t a.s n hn hn2 w
end Go.Proofs.YtlafodnaifghcaaGreat.St
namespace Go.Proofs.YtlafodnaifghcaaGreat.Tr
open Go.RowKit Go.Proofs.YtlafodnaifghcaaGreat.St
theorem eqIn_id (x y : ID) (w : World) : (Op.equal 37 (idV x) (idV y)).run Tryz.prog w = .ok (decide (x = y)) w := by
  have h : decide (x = y) = (x.t == y.t && x.s == y.s) := by
    rw [Bool.eq_iff_iff]
    simp [ID.ext_iff]
  rw [h]
  obtain ⟨a, b⟩ := x
  obtain ⟨c, d⟩ := y
  show (Op.equalIn 10000 37 (.agg #[.int .i64 a, .int .i64 b]) (.agg #[.int .i64 c, .int .i64 d])).run Tryz.prog w = _
  go_simp
  by_cases h1 : a = c
  · by_cases h2 : b = d
    · simp [h1, h2]
    · simp [h1, h2]
  · simp [h1]
def keyI : KeyE Tryz.prog 37 ID where
  enc := idV
  check := fun _ _ _ => by kernel_rfl
  now := fun k x d hd => .inl (by
    have e : Tryz.prog.underlying 37 = some d := hd
    rw [Tryz.underlying37] at e
    cases e
    rfl)
  ask := eqIn_id
  bits := fun k => by simp [idV, Instr.sameBits]
  und := ⟨_, Tryz.underlying37⟩
/-- a row of pointers, owned or none -/
def RowAt (w : World) (s : Rw) (D : List Nat) : Prop :=
  (s = ⟨none, 0, 0⟩ ∧ D = []) ∨ ∃ b cap, s = ⟨some ⟨b, 0, none⟩, D.length, cap⟩ ∧ OwnAt ptrE w 89 b cap D
def Rw.blk (s : Rw) : Option Nat := s.a.map (·.block)
/-- those that stand behind: the beginning and the elements -/
def Ref (L : List Nd) (r : ID) : Prop := r = ID.zero ∨ r ∈ ids L
/-- a document in memory -/
structure TAt (w : World) (g : Nat) (L : List Nd) (A : ID → Nat) (S : ID → Rw) (mp : Option Nat) : Prop where
  top : Blk w g 30 #[(S ID.zero).v, .map mp]
  elt : ∀ n ∈ L, Blk w (A n.id) 97 (ndC n ++ [(S n.id).v]).toArray
  row : ∀ r, Ref L r → RowAt w (S r) ((kids L r).map (fun n => A n.id))
  by_ : (mp = none ∧ L = []) ∨ ∃ b kvs, mp = some b ∧ MapK keyI w b kvs ∧ KeysOk kvs ∧ kvs.length = L.length ∧ ∀ x, getK kvs x = if x ∈ ids L then some (.pointer (some ⟨A x, 0, none⟩)) else none
  one : ∀ x ∈ ids L, ∀ y ∈ ids L, A x = A y → x = y
  far : ∀ x y, Ref L x → Ref L y → ∀ b, (S x).blk = some b → (S y).blk = some b → x = y
/-- the document's blocks -/
def foot (g : Nat) (L : List Nd) (A : ID → Nat) (S : ID → Rw) (mp : Option Nat) (b : Nat) : Prop :=
  b = g ∨ mp = some b ∨ (∃ x ∈ ids L, b = A x) ∨ ∃ r, Ref L r ∧ (S r).blk = some b
variable {w w' : World} {g : Nat} {L : List Nd} {A : ID → Nat} {S : ID → Rw} {mp : Option Nat}
theorem RowAt.keep {X : Nat → Prop} {s : Rw} {D : List Nat} (h : RowAt w s D) (hk : Kept X w w') (hs : ∀ b, s.blk = some b → ¬ X b) : RowAt w' s D := by
  rcases h with h | ⟨b, cap, rfl, h⟩
  · exact .inl h
  · exact .inr ⟨b, cap, rfl, h.keep hk (hs b rfl)⟩
theorem RowAt.sl {s : Rw} {D : List Nat} (h : RowAt w s D) : SlAt ptrE w s.v D := by
  rcases h with ⟨rfl, rfl⟩ | ⟨b, cap, rfl, h⟩
  · exact .inl ⟨rfl, rfl⟩
  · exact h.slAt
theorem RowAt.lt {s : Rw} {D : List Nat} (h : RowAt w s D) {b : Nat} (hb : s.blk = some b) : b < w.heap.size := by
  rcases h with ⟨rfl, rfl⟩ | ⟨b', cap, rfl, h⟩
  · cases hb
  · cases hb; exact h.lt
theorem TAt.keep {X : Nat → Prop} (h : TAt w g L A S mp) (hk : Kept X w w') (hs : ∀ b, foot g L A S mp b → ¬ X b) : TAt w' g L A S mp where
  top := hk.blk (hs g (.inl rfl)) h.top
  elt := fun n hn => hk.blk (hs _ (.inr (.inr (.inl ⟨n.id, List.mem_map.2 ⟨n, hn, rfl⟩, rfl⟩)))) (h.elt n hn)
  row := fun r hr => (h.row r hr).keep hk fun b hb => hs b (.inr (.inr (.inr ⟨r, hr, hb⟩)))
  by_ := by
    rcases h.by_ with h1 | ⟨b, kvs, rfl, h1, h2⟩
    · exact .inl h1
    · exact .inr ⟨b, kvs, rfl, h1.keep hk (hs b (.inr (.inl rfl))), h2⟩
  one := h.one
  far := h.far
theorem TAt.lt (h : TAt w g L A S mp) : ∀ b, foot g L A S mp b → b < w.heap.size := by
  rintro b (rfl | rfl | ⟨x, hx, rfl⟩ | ⟨r, hr, hb⟩)
  · exact h.top.lt
  · rcases h.by_ with ⟨h1, _⟩ | ⟨b', kvs, h1, h2, _⟩
    · cases h1
    · cases h1; exact h2.lt
  · obtain ⟨n, hn, rfl⟩ := List.mem_map.1 hx
    exact (h.elt n hn).lt
  · exact (h.row r hr).lt hb
theorem TAt.still (h : TAt w g L A S mp) (hk : Kept (fun _ => False) w w') : TAt w' g L A S mp := h.keep hk fun _ _ h => h
theorem TAt.shape (h : TAt w g L A S mp) : Shape w g L A S where
  root := h.top.cell' rfl
  beh := fun n hn => (h.elt n hn).cell' (by simp [ndC])
  row := fun r hr => (h.row r hr).sl
theorem TAt.found (h : TAt w g L A S mp) {x : ID} (hx : x ∈ ids L) : ∃ b kvs, mp = some b ∧ MapK keyI w b kvs ∧ getK kvs x = some (.pointer (some ⟨A x, 0, none⟩)) := by
  rcases h.by_ with ⟨_, h1⟩ | ⟨b, kvs, rfl, h1, _, _, h2⟩
  · rw [h1] at hx; cases hx
  · exact ⟨b, kvs, rfl, h1, by rw [h2 x, if_pos hx]⟩
end Go.Proofs.YtlafodnaifghcaaGreat.Tr
namespace Go.Proofs.YtlafodnaifghcaaGreat.Tr
open Go.RowKit Go.Proofs.YtlafodnaifghcaaGreat.St
theorem cell_keep {w w' : World} (hk : Kept (fun _ => False) w w') {a : Addr} {v : Value} (h : w.cell? a = some v) : w'.cell? a = some v :=
  (World.cell?_of_block (a := a) (hk.block a.block (World.block_lt_of_cell? w a h) (fun h => h))).trans h
theorem higher_any {w : World} {n : Nd} {b : Nat} (i : ID) (x0 : w.cell? ⟨b, 0, none⟩ = some (.int .i64 n.id.t)) (x1 : w.cell? ⟨b, 1, none⟩ = some (.int .i64 n.id.s)) :
    Calls Tryz.prog 81 #[.pointer (some ⟨b, 0, none⟩), idV i] w fun e w' => e = .returned (.int .i64 (i.cmp n.id)) ∧ Grew w w' := by
  obtain ⟨t, s⟩ := i
  show Calls _ _ #[_, .agg #[.int .i64 t, .int .i64 s]] _ _
  have hsz := World.block_lt_of_cell? w _ x0
  have hc : ∀ w, Calls Tryz.prog 46 #[.agg #[.int .i64 t, .int .i64 s], .agg #[.int .i64 n.id.t, .int .i64 n.id.s]] w fun e w' => e = .returned (.int .i64 ((⟨t, s⟩ : ID).cmp n.id)) ∧ Grew w w' := compare_any ⟨t, s⟩ n.id
  go_enter Tryz.func81, Tryz.ntmps81
  have hg0 : Grew w (w.alloc (.cells #[.int .i64 t, .int .i64 s] 37)) := (Grew.refl w).alloc _
  have b0 := Blk.new w 37 #[.int .i64 t, .int .i64 s]
  have c0 : _ = some (Value.int .i64 t) := b0.cell' (i := 0) rfl
  have c1 : _ = some (Value.int .i64 s) := b0.cell' (i := 1) rfl
  have hsz' : b < w.heap.size := hsz
  have y0 : (w.alloc (.cells #[.int .i64 t, .int .i64 s] 37)).cell? ⟨b, 0, none⟩ = some (.int .i64 n.id.t) := cell_keep ((Kept.refl (fun _ => False) w).alloc _) x0
  have y1 : (w.alloc (.cells #[.int .i64 t, .int .i64 s] 37)).cell? ⟨b, 1, none⟩ = some (.int .i64 n.id.s) := cell_keep ((Kept.refl (fun _ => False) w).alloc _) x1
  go_wp2_with fail
  go_region_held3 (fun w' => Grew w w' ∧ w'.cell? ⟨w.heap.size, 0, none⟩ = some (.int .i64 t) ∧ w'.cell? ⟨w.heap.size, 1, none⟩ = some (.int .i64 s) ∧ w'.cell? ⟨b, 0, none⟩ = some (.int .i64 n.id.t) ∧ w'.cell? ⟨b, 1, none⟩ = some (.int .i64 n.id.s)) (first | exact ⟨hg0.drew, c0, c1, y0, y1⟩ | exact ⟨hg0, c0, c1, y0, y1⟩ | exact ⟨hg1, d0, d1, d2, d3⟩)
    (first | (go_simp; go_at_call 46; refine (hc _).mono ?_; rintro e w' ⟨rfl, hg⟩; have hg1 := hg0.drew.trans hg; have d0 := cell_keep hg.kept c0; have d1 := cell_keep hg.kept c1; have d2 := cell_keep hg.kept y0; have d3 := cell_keep hg.kept y1))
  all_goals go_wp2
  all_goals go_ret
  all_goals exact ⟨rfl, hg1⟩
theorem may_any (i : ID) (w : World) : Calls Tryz.prog 44 #[idV i] w fun e w' => e = .returned (.bool (isB i)) ∧ Grew w w' := by
  obtain ⟨t, s⟩ := i
  show Calls _ _ #[.agg #[.int .i64 t, .int .i64 s]] _ _
  by_cases h1 : 1 ≤ t
  · by_cases h2 : t ≤ 2147483647
    · by_cases h3 : 1 ≤ s
      · by_cases h4 : s ≤ 16
        · have e : isB ⟨t, s⟩ = true := by simp [isB, ID.Is, h1, h2, h3, h4]
          rw [e]
          go_enter Tryz.func44, Tryz.ntmps44
          go_wp2
          go_ret
          exact ⟨rfl, (Grew.refl w).alloc _⟩
        · have e : isB ⟨t, s⟩ = false := by simp [isB, ID.Is, h4]
          rw [e]
          go_enter Tryz.func44, Tryz.ntmps44
          go_wp2
          go_ret
          exact ⟨rfl, (Grew.refl w).alloc _⟩
      · have e : isB ⟨t, s⟩ = false := by simp [isB, ID.Is, h3]
        rw [e]
        go_enter Tryz.func44, Tryz.ntmps44
        go_wp2
        go_ret
        exact ⟨rfl, (Grew.refl w).alloc _⟩
    · have e : isB ⟨t, s⟩ = false := by simp [isB, ID.Is, h2]
      rw [e]
      go_enter Tryz.func44, Tryz.ntmps44
      go_wp2
      go_ret
      exact ⟨rfl, (Grew.refl w).alloc _⟩
  · have e : isB ⟨t, s⟩ = false := by simp [isB, ID.Is, h1]
    rw [e]
    go_enter Tryz.func44, Tryz.ntmps44
    go_wp2
    go_ret
    exact ⟨rfl, (Grew.refl w).alloc _⟩
/-- where the row of those behind r lies -/
def place (g : Nat) (A : ID → Nat) (r : ID) : Addr := if r = ID.zero then ⟨g, 0, none⟩ else ⟨A r, 6, none⟩
set_option maxRecDepth 100000 in
theorem list_any {w : World} {g : Nat} {L : List Nd} {A : ID → Nat} {S : ID → Rw} {mp : Option Nat} (h : TAt w g L A S mp) {r : ID} (hr : Ref L r) :
    Calls Tryz.prog 66 #[.pointer (some ⟨g, 0, none⟩), idV r] w fun e w' => e = .returned (.pointer (some (place g A r))) ∧ Grew w w' := by
  obtain ⟨t, s⟩ := r
  have hgl : g < w.heap.size := h.top.lt
  have x1 : w.cell? ⟨g, 1, none⟩ = some (.map mp) := h.top.cell' rfl
  have heq := eqIn_id ⟨t, s⟩ ⟨0, 0⟩
  show Calls _ _ #[_, .agg #[.int .i64 t, .int .i64 s]] _ _
  unfold idV at heq
  by_cases hz : (⟨t, s⟩ : ID) = ID.zero
  · cases hz
    have e : place g A ID.zero = ⟨g, 0, none⟩ := if_pos rfl
    rw [show (⟨0, 0⟩ : ID) = ID.zero from rfl, e]
    go_enter Tryz.func66, Tryz.ntmps66
    go_wp2
    go_ret
    exact ⟨rfl, (Grew.refl w).alloc _⟩
  · have e : place g A ⟨t, s⟩ = ⟨A ⟨t, s⟩, 6, none⟩ := if_neg hz
    have hx : (⟨t, s⟩ : ID) ∈ ids L := hr.resolve_left hz
    obtain ⟨b, kvs, rfl, hm, hk⟩ := h.found hx
    have hne : decide ((⟨t, s⟩ : ID) = ⟨0, 0⟩) = false := decide_eq_false hz
    simp only [hne] at heq
    have hml := hm.lt
    have hm1 := hm.keep ((Kept.refl (fun _ => False) w).alloc (.cells #[.int .i64 t, .int .i64 s] 37)).drew (fun h => h)
    have hlk : (Instr.lookup 28 (.map (some b)) (.agg #[.int .i64 t, .int .i64 s]) false).run Tryz.prog (w.alloc (.cells #[.int .i64 t, .int .i64 s] 37)).drew = .ok (.pointer (some ⟨A ⟨t, s⟩, 0, none⟩)) (w.alloc (.cells #[.int .i64 t, .int .i64 s] 37)).drew := run_lookupK (K := keyI) (k := ⟨t, s⟩) Tryz.underlying28 hm1 hk
    rw [e]
    go_enter Tryz.func66, Tryz.ntmps66
    go_wp2_with fail
    · have h0 : t = 0 := by assumption
      have h1 : s = 0 := by assumption
      exact absurd (by rw [h0, h1]; rfl) hz
    · obtain rfl : t = 0 := by assumption
      go_region
      all_goals go_wp2
      all_goals go_ret
      all_goals exact ⟨rfl, ((Grew.refl w).alloc _).drew⟩
    · go_region
      all_goals go_wp2
      all_goals go_ret
      all_goals exact ⟨rfl, ((Grew.refl w).alloc _).drew⟩
end Go.Proofs.YtlafodnaifghcaaGreat.Tr
namespace Go.Proofs.YtlafodnaifghcaaGreat.Tr
open Go.RowKit Go.Proofs.YtlafodnaifghcaaGreat.St
theorem all_any (g : Nat) (w : World) : Calls Tryz.prog 63 #[.pointer (some ⟨g, 0, none⟩)] w fun e w' =>
    e = .returned (.func (.func 95) #[] #[.pointer (some ⟨w.heap.size, 0, none⟩)]) ∧ w' = w.alloc (.cells #[.pointer (some ⟨g, 0, none⟩)] 25) := by
  go_enter Tryz.func63, Tryz.ntmps63
  go_wp2
  go_ret
  exact ⟨rfl, rfl⟩
end Go.Proofs.YtlafodnaifghcaaGreat.Tr
