/- The taken operations, written over and gone on from: the two Queues stand. -/
import Derived.Test.YtaaeomapbigfgaaW21
import Derived.Test.YtaaeomapbigfgaaW12
namespace Go.Proofs.Ytaaeomapbigfgaa
open Go.RowKit Go.Proofs.Ytaaeomapbigfgaa.St
section
variable {b0 : Nat} {w w' : World} {gq gp : Nat} {hold : Int} {Cq Cp : CQ} {kv : Value} {R K : List Ent}
theorem Own3.drop (h : Own3 b0 w gq gp hold Cq Cp kv R K) : Own3 b0 w gq gp hold Cq Cp kv R R := by
  obtain ⟨sq, sp, Mq, Mp, v1, w1, o1, v2, w2, o2, h1, h2, h3, h4, h5⟩ := h
  exact ⟨sq, sp, Mq, Mp, v1, w1, o1, v2, w2, o2, h1, h2, h3, h4, h5.dis, h5.lo, h5.row, List.Sublist.refl _, h5.rowM, fun e he => h5.ents e (h5.sub.subset he), h5.pair.sublist h5.sub⟩
theorem set_v {i : Nat} {e e' : Ent} (he : R[i]? = some e) (hv : e'.v = e.v) : (R.set i e').map (·.v) = R.map (·.v) := by
  apply List.ext_getElem?
  intro j
  rw [List.getElem?_map, List.getElem?_map, List.getElem?_set]
  split
  · rename_i h
    subst h
    rw [he, if_pos (List.getElem?_eq_some_iff.1 he).1]
    exact congrArg some hv
  · rfl
theorem flat_v (R : List Ent) : entE.flat R = (R.map (·.v)).flatMap OpV.cells := by
  unfold Enc.flat
  rw [List.flatMap_map]
  rfl
theorem pair_v (R : List Ent) : R.Pairwise Apart ↔ (R.map (·.v)).Pairwise fun a b => (∀ x, a.deps.v.ownBlock = some x → b.deps.v.ownBlock ≠ some x) ∧ ∀ x, a.gone.v.ownBlock = some x → b.gone.v.ownBlock ≠ some x := by
  rw [List.pairwise_map]
  rfl
/-- what may be touched: blocks of the entry's lists -/
def OfEnt (w : World) (e : Ent) (S : Nat → Prop) : Prop := ∀ b, b < w.heap.size → S b → (∃ cs, Blk w b 27 cs) ∧ e.dB = some b ∨ (∃ cs, Blk w b 55 cs) ∧ e.gB = some b
/-- one of the taken ones says something else now, at the same place -/
theorem Own3.put (h : Own3 b0 w gq gp hold Cq Cp kv R R) {i : Nat} {e e' : Ent} (he : R[i]? = some e) (hv : e'.v = e.v) {S : Nat → Prop} (hg : OfEnt w e S) (ho : e'.Own w') (hk : Kept S w w') :
    Own3 b0 w' gq gp hold Cq Cp kv (R.set i e') (R.set i e') ∧ Kept (fun b => b0 ≤ b) w w' := by
  obtain ⟨sq, sp, Mq, Mp, v1, w1, o1, v2, w2, o2, h1, h2, h3, h4, h5⟩ := h
  have hem := List.mem_of_getElem? he
  have hgm : ∀ b, b < w.heap.size → S b → b0 ≤ b ∧ ¬ Mq b ∧ ¬ Mp b := fun b hb hS => by
    rcases hg b hb hS with ⟨_, hg⟩ | ⟨_, hg⟩
    · exact (h5.ents e hem).2.1 b hg
    · exact (h5.ents e hem).2.2 b hg
  have hrow : ∀ b, kv.ownBlock = some b → ¬ S b := fun b hb hS => by
    obtain ⟨cs2, hc⟩ := owns_spared h5.row b hb
    rcases hg b hc.lt hS with ⟨⟨cs, hb⟩, _⟩ | ⟨⟨cs, hb⟩, _⟩
    · exact hc.ne_ hb (of_decide_eq_true (by kernel_rfl)) rfl
    · exact hc.ne_ hb (of_decide_eq_true (by kernel_rfl)) rfl
  have hsv := set_v he hv
  have hk2 : Kept (fun b => b < w.heap.size ∧ S b) w w' := hk.mono (fun b hb hS => ⟨hb, hS⟩)
  refine ⟨⟨sq, sp, Mq, Mp, v1, w1, o1, v2, w2, o2, h1.keep hk2 (fun b hb e => (hgm b e.1 e.2).2.1 hb), h2.keep hk2 (fun b hb e => (hgm b e.1 e.2).2.2 hb), h3, h4, h5.dis, h5.lo, ?_, List.Sublist.refl _, h5.rowM, fun y hy => ?_, ?_⟩, hk.mono (fun b hb hS => (hgm b hb hS).1)⟩
  · have hr := owns_keep h5.row hk (fun b hb e => hrow b hb e)
    rw [flat_v] at hr ⊢
    rw [hsv, List.length_set]
    exact hr
  · obtain ⟨j, hj⟩ := List.getElem?_of_mem hy
    rw [List.getElem?_set] at hj
    split at hj
    · rename_i hij
      subst hij
      rw [if_pos (List.getElem?_eq_some_iff.1 he).1] at hj
      injection hj with hj
      subst hj
      have e1 : e'.dB = e.dB := by unfold Ent.dB; rw [hv]
      have e2 : e'.gB = e.gB := by unfold Ent.gB; rw [hv]
      rw [e1, e2]
      exact ⟨ho, (h5.ents e hem).2⟩
    · rename_i hij
      have hym := List.mem_of_getElem? hj
      obtain ⟨yo, yd, yg⟩ := h5.ents y hym
      have hap : Apart e y := by
        obtain ⟨hi1, hi2⟩ := List.getElem?_eq_some_iff.1 he
        obtain ⟨hj1, hj2⟩ := List.getElem?_eq_some_iff.1 hj
        have hp := List.pairwise_iff_getElem.1 h5.pair
        rcases Nat.lt_or_gt_of_ne hij with hlt | hlt
        · have := hp i j hi1 hj1 hlt
          rw [hi2, hj2] at this
          exact this
        · have := hp j i hj1 hi1 hlt
          rw [hi2, hj2] at this
          exact this.symm
      refine ⟨yo.stays hk2 (fun b hb e1 => ?_) (fun b hb e1 => ?_), yd, yg⟩
      · obtain ⟨cs2, hc2⟩ := owns_spared yo.deps b hb
        rcases hg b e1.1 e1.2 with ⟨_, hg⟩ | ⟨⟨cs, hc⟩, _⟩
        · exact hap.1 b hg hb
        · exact hc.ne_ hc2 (of_decide_eq_true (by kernel_rfl)) rfl
      · obtain ⟨cs2, hc2⟩ := owns_spared yo.gone b hb
        rcases hg b e1.1 e1.2 with ⟨⟨cs, hc⟩, _⟩ | ⟨_, hg⟩
        · exact hc.ne_ hc2 (of_decide_eq_true (by kernel_rfl)) rfl
        · exact hap.2 b hg hb
  · rw [pair_v, hsv, ← pair_v]
    exact h5.pair
theorem OfEnt.d {e : Ent} {g : Nat} (ho : e.Own w) (h : e.dB = some g) : OfEnt w e (fun b => b = g) := fun b _ hb => by
  subst hb
  obtain ⟨cs, hc⟩ := owns_spared ho.deps b h
  exact .inl ⟨⟨cs, hc⟩, h⟩
theorem OfEnt.g {e : Ent} {g : Nat} (ho : e.Own w) (h : e.gB = some g) : OfEnt w e (fun b => b = g) := fun b _ hb => by
  subst hb
  obtain ⟨cs, hc⟩ := owns_spared ho.gone b h
  exact .inr ⟨⟨cs, hc⟩, h⟩
/-- a block of Dots is no block of runs -/
theorem no_run {e : Ent} {g : Nat} {cs : Array Value} (ho : e.Own w) (hc : Blk w g 27 cs) : e.gB ≠ some g := fun h => by
  obtain ⟨cs2, hc2⟩ := owns_spared ho.gone g h
  exact hc.ne_ hc2 (of_decide_eq_true (by kernel_rfl)) rfl
theorem no_dot {e : Ent} {g : Nat} {cs : Array Value} (ho : e.Own w) (hc : Blk w g 55 cs) : e.dB ≠ some g := fun h => by
  obtain ⟨cs2, hc2⟩ := owns_spared ho.deps g h
  exact hc.ne_ hc2 (of_decide_eq_true (by kernel_rfl)) rfl
/-- its Deps say D now -/
theorem Own3.putD (h : Own3 b0 w gq gp hold Cq Cp kv R R) {i : Nat} {e : Ent} (he : R[i]? = some e) {g cap : Nat} {D : List Dot} (hs : e.v.deps.v = .slice (some ⟨g, 0, none⟩) e.D.length cap) (hl : D.length = e.D.length) (ho : OwnAt dotE w' 27 g cap D) (hk : Kept (fun b => b = g) w w') :
    Own3 b0 w' gq gp hold Cq Cp kv (R.set i { e with D := D }) (R.set i { e with D := D }) ∧ Kept (fun b => b0 ≤ b) w w' := by
  have heo := h.own (List.mem_of_getElem? he)
  have hdb : e.dB = some g := by unfold Ent.dB; rw [hs]; rfl
  obtain ⟨cs, hc⟩ := owns_spared heo.deps g hdb
  refine h.put he rfl (OfEnt.d heo hdb) ⟨?_, owns_keep heo.gone hk (fun b hb e1 => no_run heo hc (e1 ▸ hb)), heo.ok, by rw [hl]; exact heo.len, heo.len2⟩ hk
  show w'.ownsRow 0 27 2 e.v.deps.v D.length (dotE.flat D)
  rw [hs, ← hl]
  exact ho.owns (Nat.zero_le _)
/-- its Gone says G now -/
theorem Own3.putG (h : Own3 b0 w gq gp hold Cq Cp kv R R) {i : Nat} {e : Ent} (he : R[i]? = some e) {g cap : Nat} {G : List Run} (hs : e.v.gone.v = .slice (some ⟨g, 0, none⟩) e.G.length cap) (hl : G.length = e.G.length) (ho : OwnAt runE w' 55 g cap G) (hk : Kept (fun b => b = g) w w') :
    Own3 b0 w' gq gp hold Cq Cp kv (R.set i { e with G := G }) (R.set i { e with G := G }) ∧ Kept (fun b => b0 ≤ b) w w' := by
  have heo := h.own (List.mem_of_getElem? he)
  have hdb : e.gB = some g := by unfold Ent.gB; rw [hs]; rfl
  obtain ⟨cs, hc⟩ := owns_spared heo.gone g hdb
  refine h.put he rfl (OfEnt.g heo hdb) ⟨owns_keep heo.deps hk (fun b hb e1 => no_dot heo hc (e1 ▸ hb)), ?_, heo.ok, heo.len, by rw [hl]; exact heo.len2⟩ hk
  show w'.ownsRow 0 55 3 e.v.gone.v G.length (runE.flat G)
  rw [hs, ← hl]
  exact ho.owns (Nat.zero_le _)
theorem set_same {α : Type} {L : List α} {i : Nat} {x : α} (h : L[i]? = some x) : L.set i x = L := by
  apply List.ext_getElem?
  intro j
  rw [List.getElem?_set]
  split
  · rename_i e
    subst e
    rw [if_pos (List.getElem?_eq_some_iff.1 h).1, h]
  · rfl
theorem Own3.rowOwn (h : Own3 b0 w gq gp hold Cq Cp kv R K) : w.ownsRow b0 34 11 kv R.length (entE.flat R) := by
  obtain ⟨sq, sp, Mq, Mp, v1, w1, o1, v2, w2, o2, h1, h2, h3, h4, h5⟩ := h
  exact h5.row
theorem Own3.subl (h : Own3 b0 w gq gp hold Cq Cp kv R K) : R.Sublist K := by
  obtain ⟨sq, sp, Mq, Mp, v1, w1, o1, v2, w2, o2, h1, h2, h3, h4, h5⟩ := h
  exact h5.sub
/-- where a taken one lies in the row -/
theorem Own3.cells {ka : Option Addr} {kn kc : Nat} (h : Own3 b0 w gq gp hold Cq Cp (.slice ka kn kc) R K) {i : Nat} {e : Ent} (he : R[i]? = some e) :
    ∃ gk, ka = some ⟨gk, 0, none⟩ ∧ w.cell? ⟨gk, i * 11 + 2, none⟩ = some (.slice e.v.deps.a e.v.deps.n e.v.deps.c) ∧ w.cell? ⟨gk, i * 11 + 9, none⟩ = some (.slice e.v.gone.a e.v.gone.n e.v.gone.c) := by
  obtain ⟨_, ⟨_, h0⟩ | ⟨g, cap, hv, _, hO⟩⟩ := own_of (E := entE) h.rowOwn
  · subst h0
    simp at he
  · injection hv with e1 _ _
    exact ⟨g, e1, hO.cell he (j := 2) rfl, hO.cell he (j := 9) rfl⟩
theorem Own3.deps (h : Own3 b0 w gq gp hold Cq Cp kv R K) {i : Nat} {e : Ent} (he : R[i]? = some e) : w.ownsRow 0 27 2 e.v.deps.v e.D.length (dotE.flat e.D) ∧ w.ownsRow 0 55 3 e.v.gone.v e.G.length (runE.flat e.G) ∧ e.D.length ≤ 1000000 ∧ e.G.length ≤ 1000000 ∧ e.v.deps.n = e.D.length ∧ e.v.gone.n = e.G.length := by
  have heo := h.own (h.subl.subset (List.mem_of_getElem? he))
  refine ⟨heo.deps, heo.gone, heo.len, heo.len2, ?_, ?_⟩
  · obtain ⟨a, c, hv⟩ := owns_sl heo.deps
    unfold Sl.v at hv
    injection hv
  · obtain ⟨a, c, hv⟩ := owns_sl heo.gone
    unfold Sl.v at hv
    injection hv
/-- the first n of them say only their number -/
def Marked (R : List Ent) (n : Nat) : Prop := ∀ (j : Nat) (e : Ent), R[j]? = some e → j < n → (∀ (m : Nat) (d : Dot), e.D[m]? = some d → d = ⟨IntKind.i64.wrap (2000 + (j : Int)), 0⟩) ∧ ∀ (m : Nat) (r : Run), e.G[m]? = some r → r = ⟨⟨0, 0⟩, IntKind.i64.wrap (2000 + (j : Int))⟩
theorem Marked.zero (R : List Ent) : Marked R 0 := fun _ _ _ h => absurd h (Nat.not_lt_zero _)
theorem Marked.next {R : List Ent} {n : Nat} (h : Marked R n) {e : Ent} (hn : n < R.length) (hD : ∀ (m : Nat) (d : Dot), e.D[m]? = some d → d = ⟨IntKind.i64.wrap (2000 + (n : Int)), 0⟩) (hG : ∀ (m : Nat) (r : Run), e.G[m]? = some r → r = ⟨⟨0, 0⟩, IntKind.i64.wrap (2000 + (n : Int))⟩) : Marked (R.set n e) (n + 1) := fun j x hx hj => by
  rw [List.getElem?_set] at hx
  split at hx
  · rename_i e1
    subst e1
    injection hx with hx
    subst hx
    exact ⟨hD, hG⟩
  · exact h j x hx (by omega)
theorem marks_next {α : Type} {L : List α} {k : Nat} {x : α} (h : ∀ (m : Nat) (d : α), L[m]? = some d → m < k → d = x) : ∀ (m : Nat) (d : α), (L.set k x)[m]? = some d → m < k + 1 → d = x := fun m d hd hm => by
  rw [List.getElem?_set] at hd
  split at hd
  · split at hd
    · injection hd with hd
      exact hd.symm
    · cases hd
  · exact h m d hd (by omega)
/-- something was appended to a list: in its room, or in a new block -/
def Went (w w' : World) (g cap : Nat) (v : Value) (n : Nat) : Prop := (v = .slice (some ⟨g, 0, none⟩) n cap ∧ Kept (fun b => b = g) w w') ∨ (w.heap.size ≤ g ∧ Kept (fun _ => False) w w')
theorem Went.size {w1 : World} {g cap n : Nat} {v : Value} (h : Went w w1 g cap v n) : w.heap.size ≤ w1.heap.size := by
  rcases h with ⟨_, h⟩ | ⟨_, h⟩
  · exact h.size
  · exact h.size
theorem Went.kept {w1 : World} {g cap n : Nat} {v : Value} (h : Went w w1 g cap v n) : Kept (fun b => b = g ∧ v.ownBlock = some g) w w1 := by
  rcases h with ⟨rfl, h⟩ | ⟨_, h⟩
  · exact h.mono (fun b _ e => ⟨e, rfl⟩)
  · exact h.mono (fun _ _ h => h.elim)
theorem Went.fix {w0 w1 : World} {g cap n m base k : Nat} {t : TypeId} {v : Value} {xs : List Value} (h : Went w w1 g cap v m) (ho : w0.ownsRow base t k v n xs) : Went w w1 g cap v n := by
  rcases h with ⟨hs, h⟩ | h
  · obtain ⟨a, c, hv⟩ := owns_sl ho
    have hv' := hv
    rw [hs] at hv'
    injection hv' with e1 e2 e3
    subst e2
    exact .inl ⟨hs, h⟩
  · exact .inr h
/-- the Deps were gone on from -/
theorem Own3.wentD (h : Own3 b0 w gq gp hold Cq Cp kv R R) {i : Nat} {e : Ent} (he : R[i]? = some e) {w1 : World} {g1 c1 : Nat} {X : List Dot} (h1 : OwnAt dotE w1 27 g1 c1 (e.D ++ X)) (a1 : Went w w1 g1 c1 e.v.deps.v e.D.length) :
    Own3 b0 w1 gq gp hold Cq Cp kv R R := by
  rcases a1 with ⟨hs, hk⟩ | ⟨_, hk⟩
  · have ht := h1.take e.D.length
    rw [List.take_left] at ht
    have := (h.putD he hs rfl ht hk).1
    rwa [set_same he] at this
  · exact h.keep hk
/-- both were gone on from, and written behind their ends -/
theorem Own3.wentOn (h : Own3 b0 w gq gp hold Cq Cp kv R R) {i : Nat} {e : Ent} (he : R[i]? = some e) {w1 w2 w1' : World} {g1 c1 g2 c2 : Nat} {X : List Dot} {Y : List Run} (h1 : OwnAt dotE w1 27 g1 c1 (e.D ++ X)) (a1 : Went w w1 g1 c1 e.v.deps.v e.D.length)
    (k1 : Kept (fun _ => False) w1 w1') (h2 : OwnAt runE w2 55 g2 c2 (e.G ++ Y)) (a2 : Went w1' w2 g2 c2 e.v.gone.v e.G.length) {x : Dot} {y y' : Run} {j k : Nat} {u z : Value} (hx : (e.D ++ X)[j]? = some x) (hj : e.D.length ≤ j) {x' : Dot} (hx' : dotE.enc x' = (dotE.enc x).set 1 u)
    (hy : (e.G ++ Y)[k]? = some y) (hkl : e.G.length ≤ k) (hy' : runE.enc y' = (runE.enc y).set 0 z) :
    Own3 b0 ((w2.setCell ⟨g1, j * 2 + 1, none⟩ u).setCell ⟨g2, k * 3, none⟩ z) gq gp hold Cq Cp kv R R ∧ Kept (fun b => b0 ≤ b) w ((w2.setCell ⟨g1, j * 2 + 1, none⟩ u).setCell ⟨g2, k * 3, none⟩ z) ∧ (∃ v, w2.cell? ⟨g1, j * 2 + 1, none⟩ = some v) ∧ w2.frozen? ⟨g1, j * 2 + 1, none⟩ = false ∧
      (∃ v, (w2.setCell ⟨g1, j * 2 + 1, none⟩ u).cell? ⟨g2, k * 3, none⟩ = some v) ∧ (w2.setCell ⟨g1, j * 2 + 1, none⟩ u).frozen? ⟨g2, k * 3, none⟩ = false := by
  have heo := h.own (List.mem_of_getElem? he)
  have K1 := a1.kept
  have K2 := a2.kept
  have z1 := a1.size
  have z2 := k1.size
  have z3 := a2.size
  -- the two blocks are not one
  have hne : g1 ≠ g2 := fun hg => by
    subst hg
    obtain ⟨cs, hc, _⟩ := h1
    rcases a2 with ⟨hs, _⟩ | ⟨hl, _⟩
    · have hgb : e.gB = some g1 := by unfold Ent.gB; rw [hs]; rfl
      obtain ⟨cs2, hc2⟩ := owns_spared heo.gone g1 hgb
      rcases a1 with ⟨hs1, _⟩ | ⟨hl1, _⟩
      · have hdb : e.dB = some g1 := by unfold Ent.dB; rw [hs1]; rfl
        exact no_dot heo hc2 hdb
      · have := hc2.lt
        omega
    · have := hc.lt
      omega
  have h1b : OwnAt dotE w2 27 g1 c1 (e.D ++ X) := (h1.keep k1 (fun h => h)).keep K2 (fun h => hne h.1)
  have h1c := h1b.set1of3 (y := x') (m := 1) hx (by decide) hx'
  have h2c : OwnAt runE (w2.setCell ⟨g1, j * 2 + 1, none⟩ u) 55 g2 c2 (e.G ++ Y) := h2.keep (Kept.setCell (S := fun b => b = g1) (Kept.refl _ _) (fun _ => rfl) u) (fun h => hne h.symm)
  have h2d := h2c.set1of3 (y := y') (m := 0) hy (by decide) hy'
  have h1d : OwnAt dotE ((w2.setCell ⟨g1, j * 2 + 1, none⟩ u).setCell ⟨g2, k * 3, none⟩ z) 27 g1 c1 ((e.D ++ X).set j x') := h1c.keep (Kept.setCell (S := fun b => b = g2) (Kept.refl _ _) (fun _ => rfl) z) hne
  have hk : Kept (fun b => (b = g1 ∧ e.dB = some g1) ∨ (b = g2 ∧ e.gB = some g2)) w ((w2.setCell ⟨g1, j * 2 + 1, none⟩ u).setCell ⟨g2, k * 3, none⟩ z) := by
    have ka : Kept (fun b => (b = g1 ∧ e.dB = some g1) ∨ (b = g2 ∧ e.gB = some g2)) w w2 := ((K1.mono (fun b _ h => .inl h)).trans k1 (fun _ _ h => h.elim)).trans K2 (fun b _ h => .inr h)
    refine (ka.setCell (fun hb => ?_) u).setCell (fun hb => ?_) z
    · rcases a1 with ⟨hs, _⟩ | ⟨hl, _⟩
      · exact .inl ⟨rfl, by unfold Ent.dB; rw [hs]; rfl⟩
      · have hb : g1 < w.heap.size := hb
        omega
    · rcases a2 with ⟨hs, _⟩ | ⟨hl, _⟩
      · exact .inr ⟨rfl, by unfold Ent.gB; rw [hs]; rfl⟩
      · have hb : g2 < w.heap.size := hb
        omega
  have hof : OfEnt w e (fun b => (b = g1 ∧ e.dB = some g1) ∨ (b = g2 ∧ e.gB = some g2)) := fun b hb hS => by
    rcases hS with ⟨rfl, hS⟩ | ⟨rfl, hS⟩
    · exact OfEnt.d heo hS b hb rfl
    · exact OfEnt.g heo hS b hb rfl
  have hown : e.Own ((w2.setCell ⟨g1, j * 2 + 1, none⟩ u).setCell ⟨g2, k * 3, none⟩ z) := by
    refine ⟨?_, ?_, heo.ok, heo.len, heo.len2⟩
    · rcases a1 with ⟨hs, _⟩ | ⟨hl, _⟩
      · have ht := h1d.take e.D.length
        rw [List.take_set_of_le (by omega), List.take_left] at ht
        rw [hs]
        exact ht.owns (Nat.zero_le _)
      · refine owns_keep heo.deps hk (fun b hb hS => ?_)
        obtain ⟨cs, hc⟩ := owns_spared heo.deps b hb
        rcases hS with ⟨rfl, _⟩ | ⟨rfl, hS⟩
        · have := hc.lt
          omega
        · exact no_run heo hc hS
    · rcases a2 with ⟨hs, _⟩ | ⟨hl, _⟩
      · have ht := h2d.take e.G.length
        rw [List.take_set_of_le (by omega), List.take_left] at ht
        rw [hs]
        exact ht.owns (Nat.zero_le _)
      · refine owns_keep heo.gone hk (fun b hb hS => ?_)
        obtain ⟨cs, hc⟩ := owns_spared heo.gone b hb
        rcases hS with ⟨rfl, hS⟩ | ⟨rfl, _⟩
        · exact no_dot heo hc hS
        · have := hc.lt
          omega
  have hp := h.put he rfl hof hown hk
  rw [set_same he] at hp
  refine ⟨hp.1, hp.2, ?_, h1b.frozen _, ?_, h2c.frozen _⟩
  · exact ⟨_, h1b.cell hx (j := 1) (u := ((dotE.enc x)[1]'(by rw [dotE.len]; decide))) (List.getElem?_eq_getElem _)⟩
  · exact ⟨_, h2c.cell hy (j := 0) (u := ((runE.enc y)[0]'(by rw [runE.len]; decide))) (List.getElem?_eq_getElem _)⟩
theorem Own3.row (h : Own3 b0 w gq gp hold Cq Cp kv R K) : SlAt entE w kv R := by
  obtain ⟨sq, sp, Mq, Mp, v1, w1, o1, v2, w2, o2, h1, h2, h3, h4, h5⟩ := h
  exact owns_slAt (E := entE) h5.row
end
section
variable {α : Type} {E : Enc α} {P : Program} {w : World}
/-- several are appended to an owned row: in its room, or into a new block -/
theorem run_append_two {t ty e : TypeId} (z : Value) (bytes : Nat) (ht : P.underlying t = some (.slice e)) (hinfo : (P.info? e).map (fun i => (i.zero, i.size, i.bytes)) = some (some z, E.k, bytes)) (hzs : z.cells.size = E.k) (hb4 : bytes ≤ 4096) {v : Value} {D X : List α}
    (hown : w.ownsRow 0 e E.k v D.length (E.flat D)) {ad : Addr} {n c : Nat} (hL : SlAt E w (.slice (some ad) n c) X) (hX : 0 < X.length) (hXl : X.length ≤ 2) (h63 : D.length ≤ 1000000) :
    ∃ g cap w', (Builtin.append_ #[t, t] ty #[v, .slice (some ad) n c]).run P w = .ok (.slice (some ⟨g, 0, none⟩) (D.length + X.length) cap) w' ∧ OwnAt E w' e g cap (D ++ X) ∧ Went w w' g cap v D.length := by
  obtain ⟨i, hi, hz, hsize, hby⟩ := info_parts hinfo
  obtain ⟨hnX, hn⟩ := hL.at_
  subst hnX
  have hbb : (D.length + X.length) * bytes ≤ 140737488355328 := by
    have : (D.length + X.length) * bytes ≤ 1000002 * 4096 := Nat.mul_le_mul (by omega) hb4
    omega
  have hm1 : D.length + X.length ≤ maxLen := by unfold maxLen; omega
  obtain ⟨v', w', hr, h2, h3, _, h5⟩ := run_append_own_at (P := P) w 0 t ty e i z E.k bytes ht hi hz hsize hby hzs E.pos v D.length (E.flat D) hown ad X.length c (E.flat X) (E.flat_len X) hn (E.flat_one_cell X) hm1 hbb (Nat.zero_le _)
  rw [← E.flat_append, ← List.length_append] at h2
  obtain ⟨_, ⟨_, hno⟩ | ⟨g, cap, hv', _, hO⟩⟩ := own_of (E := E) h2
  · have := congrArg List.length hno
    rw [List.length_append, List.length_nil] at this
    omega
  subst hv'
  have hr2 := hr
  rw [List.length_append] at hr2
  refine ⟨g, cap, w', hr2, hO, ?_⟩
  have hs : Src P i.size t (.slice (some ad) X.length c) X.length (E.flat X) w := by
    rw [hsize]
    exact Src.ofSlice w ht ad X.length c (E.flat X) (E.flat_len X) hn (E.flat_one_cell X)
  have hcap : ∀ old, old < D.length + X.length → Builtin.nextslicecap (D.length + X.length) old * i.bytes ≤ 281474976710656 := fun old h => by
    have h1 := nextslicecap_le h
    rw [hby]
    have : Builtin.nextslicecap (D.length + X.length) old * bytes ≤ 4000000 * 4096 := Nat.mul_le_mul (by omega) hb4
    omega
  rcases hown.2 with ⟨rfl, hxs⟩ | ⟨g0, cap0, cur, rfl, hbg, hg, hnc, hcm, hcs, htake⟩
  · have hD : D.length = 0 := by assumption
    rw [hD] at hcap
    have hrun := run_append_grow_src (P := P) (w := w) t t ty e i z ht hi hz none 0 0 [] (run_firstCells_none _ _ _ _ _) (.slice (some ad) X.length c) X.length (E.flat X) hs (by omega) (by omega) (hcap 0 (by omega))
    rw [hr] at hrun
    injection hrun with e1 e2
    injection e1 with e3 _ _
    injection e3 with e3
    injection e3 with e3 _ _
    right
    rw [e2, e3]
    exact ⟨Nat.le_refl _, ((Kept.refl _ _).drew).alloc _⟩
  · by_cases hroom : D.length + X.length ≤ cap0
    · left
      have hblk : Blk w g0 e cur := hg
      have hsz : (D.length + X.length) * E.k ≤ cap0 * E.k := Nat.mul_le_mul_right _ hroom
      have hl1 : (E.flat X).length = X.length * E.k := E.flat_len X
      have hrun := run_append_room_src (P := P) (w := w) t t ty e i ht hi g0 0 D.length cap0 (.slice (some ad) X.length c) X.length (E.flat X) hs hroom (fun j hj => by
        rw [hblk.cell, hsize]
        rw [hl1] at hj
        rw [Nat.add_mul] at hsz
        rw [Array.getElem?_eq_getElem (show 0 + D.length * E.k + j < cur.size by omega)]
        rfl) (fun j _ => hblk.frozen _)
      rw [hr] at hrun
      injection hrun with e1 e2
      injection e1 with e3 e4 e5
      injection e3 with e3
      injection e3 with e3 _ _
      subst e3 e5
      refine ⟨rfl, ?_⟩
      rcases h5 with h5 | h5
      · exact Kept.grown (Kept.refl _ _) h3 (fun k e _ => by have h6 : some g = some k := e; injection h6 with h6; exact h6.symm)
      · have hlt := hblk.lt
        have hgs : g = w.heap.size := by simpa [Value.ownBlock] using h5
        omega
    · right
      have hold : (Builtin.firstCells i.size D.length (.slice (some ⟨g0, 0, none⟩) D.length cap0)).run P w.drew = .ok (E.flat D).toArray w.drew := by
        rw [hsize]
        refine run_firstCells_some _ E.k D.length ⟨g0, 0, none⟩ D.length cap0 (E.flat D) hown.1 (fun j u hu => ?_)
        rw [Addr.add_lit, Nat.zero_add]
        show w.cell? ⟨g0, j, none⟩ = some u
        have hblk : Blk w g0 e cur := hg
        rw [hblk.cell]
        rw [← htake, List.getElem?_take] at hu
        split at hu
        · simpa using hu
        · cases hu
      have hrun := run_append_grow_src (P := P) (w := w) t t ty e i z ht hi hz (some ⟨g0, 0, none⟩) D.length cap0 (E.flat D) hold (.slice (some ad) X.length c) X.length (E.flat X) hs (by omega) (by omega) (hcap cap0 (by omega))
      rw [hr] at hrun
      injection hrun with e1 e2
      injection e1 with e3 _ _
      injection e3 with e3
      injection e3 with e3 _ _
      rw [e2, e3]
      exact ⟨Nat.le_refl _, ((Kept.refl _ _).drew).alloc _⟩
theorem wpList_append_two {ops : Array Oper} {rest : List Oper} {o : Oper} {a : Act} {Q : Exit → Act → World → Prop} (hgd : o.guard = none) (s y : Operand) (t : TypeId)
    (ho : o.op = .call { callee := .builtin .append, args := #[s, y], argTypes := #[t, t] }) (e : TypeId) (z : Value) (bytes : Nat) (ht : P.underlying t = some (.slice e))
    (hinfo : (P.info? e).map (fun i => (i.zero, i.size, i.bytes)) = some (some z, E.k, bytes)) (hzs : z.cells.size = E.k) (hb4 : bytes ≤ 4096) {v : Value} {dn : Nat} {D X : List α} {ad : Addr} {n c : Nat} (hs : a.eval s = v) (hx : a.eval y = .slice (some ad) n c)
    (hown : w.ownsRow 0 e E.k v dn (E.flat D)) (hL : SlAt E w (.slice (some ad) n c) X) (hX : 0 < X.length) (hXl : X.length ≤ 2) (h63 : dn ≤ 1000000) {m : Nat} (hm : dn + X.length = m)
    (h : ∀ g cap w', OwnAt E w' e g cap (D ++ X) → Went w w' g cap v dn → wpList P ops Q rest (a.put o.dst (.slice (some ⟨g, 0, none⟩) m cap)) w') : wpList P ops Q (o :: rest) a w := by
  subst hm
  obtain ⟨hdn, _⟩ := own_of (E := E) hown
  subst hdn
  refine wpList_plain hgd fun K hK => ?_
  obtain ⟨g, cap, w', hr, h2, h3⟩ := run_append_two (P := P) (ty := o.type) z bytes ht hinfo hzs hb4 hown hL hX hXl h63
  unfold Oper.wp execOp
  simp only [ho, resolve, invoke, builtin, Sem.run_bind, Sem.run_pure, Result.andThen_ok, List.map_toArray, List.map_cons, List.map_nil, hs, hx, hr]
  exact hK _ _ (h g cap w' h2 h3)
end
end Go.Proofs.Ytaaeomapbigfgaa
