/- Two rows go on from two rows: what is so of them while they grow. -/
import Derived.Test.YtdbnohlignpeaaaStFam
namespace Go.Proofs.Ytdbnohlignpeaaa
open Go.RowKit Go.Proofs.Ytdbnohlignpeaaa.St
namespace stampOwn
/-- what one append leaves of a row that has the same beginning -/
theorem grow_read {α : Type} {E : Enc α} {w w' : World} {t : TypeId} {V X X' : Value} {D L : List α} {n base : Nat} (hV : SlAt E w V D) (hf : V = .slice none 0 0 ∨ ∃ g cap, V = .slice (some ⟨g, 0, none⟩) D.length cap)
    (h : w'.ownsRow base t E.k X' n (E.flat (D ++ L))) (hg : Grow1 w w' X X') : SlAt E w' V D := by
  rcases hg with ⟨e, hk⟩ | ⟨_, hk⟩
  · by_cases hx : V.ownBlock = X.ownBlock
    · rcases hf with rfl | ⟨g, cap, rfl⟩
      · exact .inl ⟨rfl, hV.none_.1⟩
      · obtain ⟨_, ⟨rfl, hn⟩ | ⟨g2, cap2, rfl, _, hO⟩⟩ := own_of h
        · rw [← e] at hx; cases hx
        · rw [← e] at hx
          obtain rfl : g = g2 := by simpa [Value.ownBlock] using hx
          obtain ⟨a, c, h1, h2, h3⟩ := hV.sl
          injection h1 with e1 e2 e3
          subst e3
          refine .inr ⟨⟨g, 0, none⟩, _, rfl, h2, h3, fun _ => rfl, fun i y hy j u hu => ?_⟩
          rw [Nat.zero_add]
          exact hO.cell (by rw [List.getElem?_append_left (List.getElem?_eq_some_iff.1 hy).1]; exact hy) hu
    · exact hV.keep hk (fun b hb _ hb' => hx (by rw [hb, hb']))
  · exact hV.kept hk
theorem owns_form {α : Type} {E : Enc α} {w : World} {t : TypeId} {V : Value} {D : List α} {n base : Nat} (h : w.ownsRow base t E.k V n (E.flat D)) : V = .slice none 0 0 ∨ ∃ g cap, V = .slice (some ⟨g, 0, none⟩) D.length cap := by
  obtain ⟨hl, ⟨rfl, _⟩ | ⟨g, cap, rfl, _⟩⟩ := own_of h
  · exact .inl rfl
  · exact .inr ⟨g, cap, by rw [hl]⟩
theorem grow_to {w w' : World} {X X' : Value} (h : Grow1 w w' X X') : Kept (fun b => X.ownBlock = some b) w w' := by
  rcases h with ⟨_, h⟩ | ⟨_, h⟩
  · exact h
  · exact h.mono (fun _ _ h => h.elim)
theorem up_up (x : Nat → Value) (n : Nat) (X Y X' : Value) : up (up (up x (2 * n) X) (2 * n + 1) Y) (2 * n) X' = up (up x (2 * n) X') (2 * n + 1) Y := by
  funext t
  simp only [up]
  by_cases h : t = 2 * n
  · subst h
    rw [if_pos rfl, if_neg (by omega), if_pos rfl]
  · rw [if_neg h]
    by_cases h1 : t = 2 * n + 1
    · rw [if_pos h1, if_pos h1]
    · rw [if_neg h1, if_neg h1, if_neg h, if_neg h]
theorem up_up1 (x : Nat → Value) (n : Nat) (Y Y' : Value) : up (up x (2 * n + 1) Y) (2 * n + 1) Y' = up x (2 * n + 1) Y' := by
  funext t
  simp only [up]
  by_cases h1 : t = 2 * n + 1
  · rw [if_pos h1, if_pos h1]
  · rw [if_neg h1, if_neg h1, if_neg h1]
/-- the two rows at the outset -/
structure TwoB (wo : World) (R n : Nat) (V W : Value) (A : List UInt8) (B : List Run) : Prop where
  n3 : n < 3
  top : R + 4 ≤ wo.heap.size
  vlo : ∀ b, V.ownBlock = some b → R + 4 ≤ b ∧ b < wo.heap.size
  wlo : ∀ b, W.ownBlock = some b → R + 4 ≤ b ∧ b < wo.heap.size
  dis : ∀ b, V.ownBlock = some b → ¬ W.ownBlock = some b
  vf : V = .slice none 0 0 ∨ ∃ g cap, V = .slice (some ⟨g, 0, none⟩) A.length cap
  wf : W = .slice none 0 0 ∨ ∃ g cap, W = .slice (some ⟨g, 0, none⟩) B.length cap
/-- the two rows as they grow -/
structure Two (wo : World) (R n : Nat) (v x : Nat → Value) (V W : Value) (A : List UInt8) (B : List Run) (L : List UInt8) (M : List Run) (X Y : Value) (w : World) : Prop where
  arr : Arr w R v (up (up x (2 * n) X) (2 * n + 1) Y)
  xo : w.ownsRow 0 5 byteE.k X (A ++ L).length (byteE.flat (A ++ L))
  yo : w.ownsRow 0 35 runE.k Y (B ++ M).length (runE.flat (B ++ M))
  vr : SlAt byteE w V A
  wr : SlAt runE w W B
  xb : ∀ b, X.ownBlock = some b → V.ownBlock = some b ∨ wo.heap.size ≤ b
  yb : ∀ b, Y.ownBlock = some b → W.ownBlock = some b ∨ wo.heap.size ≤ b
  dis : ∀ b, X.ownBlock = some b → ¬ Y.ownBlock = some b
  kept : Kept (fun b => b = R + 1 ∨ b = R + 1 + 1 + 1 ∨ V.ownBlock = some b ∨ W.ownBlock = some b ∨ wo.heap.size ≤ b) wo w
theorem Two.byte {wo w wa w1 : World} {R n : Nat} {v x : Nat → Value} {V W X Y X' : Value} {A L : List UInt8} {B M : List Run} {y : UInt8} (hB : TwoB wo R n V W A B) (h : Two wo R n v x V W A B L M X Y w) (ha : Kept (fun _ => False) w wa)
    (hx : w1.ownsRow 0 5 byteE.k X' ((A ++ L).length + 1) (byteE.flat ((A ++ L) ++ [y]))) (hg : Grow1 wa w1 X X') : Two wo R n v x V W A B (L ++ [y]) M X' Y (w1.setCell ⟨R + 1, n, none⟩ X') := by
  rw [List.append_assoc] at hx
  have hs0 := h.kept.size
  have hs1 := ha.size
  have htop := hB.top
  have k1 : Kept (fun b => X.ownBlock = some b) w w1 := (ha.mono (fun _ _ h => h.elim)).trans (grow_to hg) (fun _ _ h => h)
  have hs2 := k1.size
  have k2 : Kept (· = R + 1) w1 (w1.setCell ⟨R + 1, n, none⟩ X') := (Kept.refl (· = R + 1) w1).setCell (fun _ => rfl) _
  have hxlo : ∀ b, X.ownBlock = some b → R + 4 ≤ b := fun b hb => by
    rcases h.xb b hb with e | e
    · exact (hB.vlo b e).1
    · omega
  have hylo : ∀ b, Y.ownBlock = some b → R + 4 ≤ b := fun b hb => by
    rcases h.yb b hb with e | e
    · exact (hB.wlo b e).1
    · omega
  have hx' : ∀ b, X'.ownBlock = some b → X.ownBlock = some b ∨ b = wa.heap.size := fun b hb => by
    rcases hg with ⟨e, _⟩ | ⟨e, _⟩
    · exact .inl (by rw [← e]; exact hb)
    · rw [e] at hb; injection hb with e; exact .inr e.symm
  have a1 := (h.arr.keep k1 hxlo).setL hB.n3 X'
  rw [up_up] at a1
  refine ⟨a1, ?_, ?_, ?_, ?_, fun b hb => ?_, h.yb, fun b hb hb' => ?_, ?_⟩
  · have := owns_keep hx k2 (fun b hb e => by
      have e : b = R + 1 := e
      rcases hx' b hb with h1 | h1
      · have := hxlo b h1; omega
      · omega)
    have hl : (A ++ (L ++ [y])).length = (A ++ L).length + 1 := by simp; omega
    rw [hl]; exact this
  · exact owns_keep (owns_keep h.yo k1 (fun b hb hb' => h.dis b hb' hb)) k2 (fun b hb e => by have e : b = R + 1 := e; have := hylo b hb; omega)
  · exact (grow_read (h.vr.kept ha) hB.vf hx hg).keep k2 (fun b hb _ e => by have e : b = R + 1 := e; have := (hB.vlo b hb).1; omega)
  · refine (h.wr.keep k1 (fun b hb _ hb' => ?_)).keep k2 (fun b hb _ e => by have e : b = R + 1 := e; have := (hB.wlo b hb).1; omega)
    rcases h.xb b hb' with e | e
    · exact hB.dis b e hb
    · have := (hB.wlo b hb).2; omega
  · rcases hx' b hb with e | e
    · exact h.xb b e
    · right; omega
  · rcases hx' b hb with e | e
    · exact h.dis b e hb'
    · have := (h.yo.lt b hb').2; omega
  · refine (h.kept.trans k1 (fun b _ hb => ?_)).trans k2 (fun b _ hb => .inl hb)
    rcases h.xb b hb with e | e
    · exact .inr (.inr (.inl e))
    · exact .inr (.inr (.inr (.inr e)))
theorem Two.run {wo w wa w1 : World} {R n : Nat} {v x : Nat → Value} {V W X Y Y' : Value} {A L : List UInt8} {B M : List Run} {y : Run} (hB : TwoB wo R n V W A B) (h : Two wo R n v x V W A B L M X Y w) (ha : Kept (fun _ => False) w wa)
    (hy : w1.ownsRow 0 35 runE.k Y' ((B ++ M).length + 1) (runE.flat ((B ++ M) ++ [y]))) (hg : Grow1 wa w1 Y Y') : Two wo R n v x V W A B L (M ++ [y]) X Y' (w1.setCell ⟨R + 1 + 1 + 1, n, none⟩ Y') := by
  rw [List.append_assoc] at hy
  have hs0 := h.kept.size
  have hs1 := ha.size
  have htop := hB.top
  have k1 : Kept (fun b => Y.ownBlock = some b) w w1 := (ha.mono (fun _ _ h => h.elim)).trans (grow_to hg) (fun _ _ h => h)
  have hs2 := k1.size
  have k2 : Kept (· = R + 1 + 1 + 1) w1 (w1.setCell ⟨R + 1 + 1 + 1, n, none⟩ Y') := (Kept.refl (· = R + 1 + 1 + 1) w1).setCell (fun _ => rfl) _
  have hxlo : ∀ b, X.ownBlock = some b → R + 4 ≤ b := fun b hb => by
    rcases h.xb b hb with e | e
    · exact (hB.vlo b e).1
    · omega
  have hylo : ∀ b, Y.ownBlock = some b → R + 4 ≤ b := fun b hb => by
    rcases h.yb b hb with e | e
    · exact (hB.wlo b e).1
    · omega
  have hy' : ∀ b, Y'.ownBlock = some b → Y.ownBlock = some b ∨ b = wa.heap.size := fun b hb => by
    rcases hg with ⟨e, _⟩ | ⟨e, _⟩
    · exact .inl (by rw [← e]; exact hb)
    · rw [e] at hb; injection hb with e; exact .inr e.symm
  have a1 := (h.arr.keep k1 hylo).setM hB.n3 Y'
  rw [up_up1] at a1
  refine ⟨a1, ?_, ?_, ?_, ?_, h.xb, fun b hb => ?_, fun b hb hb' => ?_, ?_⟩
  · exact owns_keep (owns_keep h.xo k1 (fun b hb hb' => h.dis b hb hb')) k2 (fun b hb e => by have e : b = R + 1 + 1 + 1 := e; have := hxlo b hb; omega)
  · have := owns_keep hy k2 (fun b hb e => by
      have e : b = R + 1 + 1 + 1 := e
      rcases hy' b hb with h1 | h1
      · have := hylo b h1; omega
      · omega)
    have hl : (B ++ (M ++ [y])).length = (B ++ M).length + 1 := by simp; omega
    rw [hl]; exact this
  · refine (h.vr.keep k1 (fun b hb _ hb' => ?_)).keep k2 (fun b hb _ e => by have e : b = R + 1 + 1 + 1 := e; have := (hB.vlo b hb).1; omega)
    rcases h.yb b hb' with e | e
    · exact hB.dis b hb e
    · have := (hB.vlo b hb).2; omega
  · exact (grow_read (h.wr.kept ha) hB.wf hy hg).keep k2 (fun b hb _ e => by have e : b = R + 1 + 1 + 1 := e; have := (hB.wlo b hb).1; omega)
  · rcases hy' b hb with e | e
    · exact h.yb b e
    · right; omega
  · rcases hy' b hb' with e | e
    · exact h.dis b hb e
    · have := (h.xo.lt b hb).2; omega
  · refine (h.kept.trans k1 (fun b _ hb => ?_)).trans k2 (fun b _ hb => .inr (.inl hb))
    rcases h.yb b hb with e | e
    · exact .inr (.inr (.inr (.inl e)))
    · exact .inr (.inr (.inr (.inr e)))
def st2 (n s : Nat) : Nat := if s / 2 < n then 2 else 1
/-- the rows of round n, out of the six -/
theorem Fam.two {R n : Nat} {v x : Nat → Value} {G : Nat → Nat → Prop} {w : World} (hf : Fam (R + 4) (HH (st2 n) v x) G w) (ha : Arr w R v x) (hn : n < 3) :
    ∃ d e, d ≤ 100000 ∧ e ≤ 100000 ∧ w.ownsRow 0 5 byteE.k (v (2 * n)) d (byteE.flat (List.replicate d (b1 n))) ∧ w.ownsRow 0 35 runE.k (v (2 * n + 1)) e (runE.flat (List.replicate e (r1 n))) ∧
      (∀ b, (v (2 * n)).ownBlock = some b → G (2 * n) b) ∧ (∀ b, (v (2 * n + 1)).ownBlock = some b → G (2 * n + 1) b) ∧ TwoB w R n (v (2 * n)) (v (2 * n + 1)) (List.replicate d (b1 n)) (List.replicate e (r1 n)) ∧
      Two w R n v x (v (2 * n)) (v (2 * n + 1)) (List.replicate d (b1 n)) (List.replicate e (r1 n)) [] [] (v (2 * n)) (v (2 * n + 1)) ((w.setCell ⟨R + 1, n, none⟩ (v (2 * n))).setCell ⟨R + 1 + 1 + 1, n, none⟩ (v (2 * n + 1))) := by
  have h0 := hf.holds (2 * n) (by omega)
  have h1 := hf.holds (2 * n + 1) (by omega)
  rw [HH.even] at h0
  rw [HH.odd] at h1
  have s0 : st2 n (2 * n) = 1 := by unfold st2; rw [if_neg (by omega)]
  have s1 : st2 n (2 * n + 1) = 1 := by unfold st2; rw [if_neg (by omega)]
  rw [s0] at h0
  rw [s1] at h1
  rcases h0 with h | ⟨_, _, g0, d, hd, o0⟩ | h
  · exact absurd h.1 (by omega)
  rotate_left
  · exact absurd h.1 (by omega)
  rcases h1 with h | ⟨_, _, g1, e, he, o1⟩ | h
  · exact absurd h.1 (by omega)
  rotate_left
  · exact absurd h.1 (by omega)
  have htop : R + 4 ≤ w.heap.size := by have := ha.2.2.2.lt; omega
  have hvlo : ∀ b, (v (2 * n)).ownBlock = some b → R + 4 ≤ b ∧ b < w.heap.size := fun b hb => hf.lo _ (by omega) b (g0 b hb)
  have hwlo : ∀ b, (v (2 * n + 1)).ownBlock = some b → R + 4 ≤ b ∧ b < w.heap.size := fun b hb => hf.lo _ (by omega) b (g1 b hb)
  have hdis : ∀ b, (v (2 * n)).ownBlock = some b → ¬ (v (2 * n + 1)).ownBlock = some b := fun b hb hb' => hf.apart (2 * n) (2 * n + 1) (by omega) (by omega) (by omega) b (g0 b hb) (g1 b hb')
  refine ⟨d, e, hd, he, o0, o1, g0, g1, ⟨hn, htop, hvlo, hwlo, hdis, owns_form o0, owns_form o1⟩, ?_⟩
  have k : Kept (fun b => b = R + 1 ∨ b = R + 1 + 1 + 1) w ((w.setCell ⟨R + 1, n, none⟩ (v (2 * n))).setCell ⟨R + 1 + 1 + 1, n, none⟩ (v (2 * n + 1))) :=
    ((Kept.refl _ w).setCell (p := ⟨R + 1, n, none⟩) (fun _ => .inl rfl) _).setCell (p := ⟨R + 1 + 1 + 1, n, none⟩) (fun _ => .inr rfl) _
  have hv1 : ∀ b, (v (2 * n)).ownBlock = some b → ¬ (b = R + 1 ∨ b = R + 1 + 1 + 1) := fun b hb e => by have := (hvlo b hb).1; omega
  have hw1 : ∀ b, (v (2 * n + 1)).ownBlock = some b → ¬ (b = R + 1 ∨ b = R + 1 + 1 + 1) := fun b hb e => by have := (hwlo b hb).1; omega
  refine ⟨(ha.setL hn _).setM hn _, ?_, ?_, (owns_slAt (E := byteE) o0).keep k (fun b hb _ => hv1 b hb), (owns_slAt (E := runE) o1).keep k (fun b hb _ => hw1 b hb), fun b hb => .inl hb, fun b hb => .inl hb, hdis, k.mono (fun b _ hb => ?_)⟩
  · have := owns_keep o0 k hv1
    rw [List.append_nil, List.length_replicate]
    exact this
  · have := owns_keep o1 k hw1
    rw [List.append_nil, List.length_replicate]
    exact this
  · rcases hb with e | e
    · exact .inl e
    · exact .inr (.inl e)
/-- the six after the round -/
theorem Two.fin {R n d e : Nat} {v x : Nat → Value} {G : Nat → Nat → Prop} {wo w : World} {X Y : Value} (hf : Fam (R + 4) (HH (st2 n) v x) G wo) (hd : d ≤ 100000) (he : e ≤ 100000)
    (g0 : ∀ b, (v (2 * n)).ownBlock = some b → G (2 * n) b) (g1 : ∀ b, (v (2 * n + 1)).ownBlock = some b → G (2 * n + 1) b) (hB : TwoB wo R n (v (2 * n)) (v (2 * n + 1)) (List.replicate d (b1 n)) (List.replicate e (r1 n)))
    (h : Two wo R n v x (v (2 * n)) (v (2 * n + 1)) (List.replicate d (b1 n)) (List.replicate e (r1 n)) (List.replicate 40 (b2 n)) (List.replicate 40 (r2 n)) X Y w) :
    Fam (R + 4) (HH (st2 (n + 1)) v (up (up x (2 * n) X) (2 * n + 1) Y)) (fun s => if s = 2 * n then fun b => (v (2 * n)).ownBlock = some b ∨ X.ownBlock = some b else if s = 2 * n + 1 then fun b => (v (2 * n + 1)).ownBlock = some b ∨ Y.ownBlock = some b else G s) w := by
  have hn := hB.n3
  have htop := hB.top
  have hs := h.kept.size
  refine hf.turn2 (2 * n) (by omega) (F0 := fun b => (v (2 * n)).ownBlock = some b ∨ X.ownBlock = some b) (F1 := fun b => (v (2 * n + 1)).ownBlock = some b ∨ Y.ownBlock = some b) (fun s hs e0 e1 => ⟨?_, HH.firm _ _ _ _⟩) h.kept (fun b hb hlt hlo => ?_) ?_ ?_ (fun b hb => ?_) (fun b hb => ?_) (fun b hb hb' => ?_)
  · unfold HH st2
    rw [show up (up x (2 * n) X) (2 * n + 1) Y s = x s by simp only [up]; rw [if_neg e1, if_neg e0]]
    by_cases h : s / 2 < n
    · rw [if_pos h, if_pos (show s / 2 < n + 1 by omega)]
    · rw [if_neg h, if_neg (show ¬ s / 2 < n + 1 by omega)]
  · rcases hb with e | e | e | e | e
    · omega
    · omega
    · exact .inl (g0 b e)
    · exact .inr (g1 b e)
    · omega
  · rw [HH.even]
    refine .inr (.inr ⟨by unfold st2; rw [if_pos (by omega)], fun b hb => .inl hb, fun b hb => .inr ?_, d, hd, h.vr, ?_⟩)
    · rw [show up (up x (2 * n) X) (2 * n + 1) Y (2 * n) = X by simp [up]] at hb
      exact hb
    · rw [show up (up x (2 * n) X) (2 * n + 1) Y (2 * n) = X by simp [up]]
      exact owns_slAt (E := byteE) h.xo
  · rw [HH.odd]
    refine .inr (.inr ⟨by unfold st2; rw [if_pos (by omega)], fun b hb => .inl hb, fun b hb => .inr ?_, e, he, h.wr, ?_⟩)
    · rw [show up (up x (2 * n) X) (2 * n + 1) Y (2 * n + 1) = Y by simp [up]] at hb
      exact hb
    · rw [show up (up x (2 * n) X) (2 * n + 1) Y (2 * n + 1) = Y by simp [up]]
      exact owns_slAt (E := runE) h.yo
  · rcases hb with hb | hb
    · have := hB.vlo b hb
      exact ⟨this.1, by omega, fun _ => g0 b hb⟩
    · have h2 := (h.xo.lt b hb).2
      rcases h.xb b hb with e | e
      · have := hB.vlo b e
        exact ⟨this.1, h2, fun _ => g0 b e⟩
      · exact ⟨by omega, h2, fun h => by omega⟩
  · rcases hb with hb | hb
    · have := hB.wlo b hb
      exact ⟨this.1, by omega, fun _ => g1 b hb⟩
    · have h2 := (h.yo.lt b hb).2
      rcases h.yb b hb with e | e
      · have := hB.wlo b e
        exact ⟨this.1, h2, fun _ => g1 b e⟩
      · exact ⟨by omega, h2, fun h => by omega⟩
  · rcases hb with hb | hb
    · rcases hb' with hb' | hb'
      · exact hB.dis b hb hb'
      · rcases h.yb b hb' with e | e
        · exact hB.dis b hb e
        · have := hB.vlo b hb; omega
    · rcases hb' with hb' | hb'
      · rcases h.xb b hb with e | e
        · exact hB.dis b e hb'
        · have := hB.wlo b hb'; omega
      · exact h.dis b hb hb'
end stampOwn
end Go.Proofs.Ytdbnohlignpeaaa
