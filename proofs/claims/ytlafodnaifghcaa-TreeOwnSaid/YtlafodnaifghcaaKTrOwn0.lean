/- Rows that may go on, the clipped ones too; six of them, each in memory of its own: words for TreeOwn. -/
import Derived.Test.YtlafodnaifghcaaKTrDuo
import Derived.Test.YtlafodnaifghcaaK6
import Derived.ArgAppend
namespace Go.Proofs.Ytlafodnaifghcaa.Tr
open Go.RowKit Go.Proofs.Ytlafodnaifghcaa.St Go.Proofs.Ytlafodnaifghcaa
/-- a row of a block of its own; its room is all of the block's, or none -/
def App {α : Type} (E : Enc α) (t : TypeId) (w : World) (v : Value) (D : List α) : Prop :=
  (v = .slice none 0 0 ∧ D = []) ∨ ∃ g cap c, v = .slice (some ⟨g, 0, none⟩) D.length c ∧ OwnAt E w t g cap D ∧ (c = D.length ∨ c = cap)
section
variable {α : Type} {E : Enc α} {t : TypeId} {w w' : World} {v v' V : Value} {D L : List α}
theorem App.slAt (h : App E t w v D) : SlAt E w v D := by
  rcases h with h | ⟨g, cap, c, rfl, ho, hc⟩
  · exact .inl h
  · have hle := ho.le
    exact .inr ⟨⟨g, 0, none⟩, c, rfl, by omega, by omega, fun _ => rfl, fun i y hy j u hu => by rw [Nat.zero_add]; exact ho.cell hy hu⟩
theorem App.keep {S : Nat → Prop} (h : App E t w v D) (hk : Kept S w w') (hs : ∀ b, v.ownBlock = some b → ¬ S b) : App E t w' v D := by
  rcases h with h | ⟨g, cap, c, rfl, ho, hc⟩
  · exact .inl h
  · exact .inr ⟨g, cap, c, rfl, ho.keep hk (hs g rfl), hc⟩
theorem App.lt (h : App E t w v D) : ∀ b, v.ownBlock = some b → b < w.heap.size := fun b hb => by
  rcases h with ⟨rfl, _⟩ | ⟨g, cap, c, rfl, ho, hc⟩
  · cases hb
  · cases hb; exact ho.lt
theorem App.form (h : App E t w v D) : v = .slice none 0 0 ∨ ∃ g c, v = .slice (some ⟨g, 0, none⟩) D.length c := by
  rcases h with ⟨rfl, _⟩ | ⟨g, cap, c, rfl, _⟩
  · exact .inl rfl
  · exact .inr ⟨g, c, rfl⟩
theorem App.sl (h : App E t w v D) : ∃ a c, v = .slice a D.length c := by
  rcases h with ⟨rfl, rfl⟩ | ⟨g, cap, c, rfl, _⟩
  · exact ⟨none, 0, rfl⟩
  · exact ⟨_, _, rfl⟩
theorem App.one (h : App E t w v D) (hn : 0 < D.length) : ∃ g cap c, v = .slice (some ⟨g, 0, none⟩) D.length c ∧ OwnAt E w t g cap D := by
  rcases h with ⟨rfl, rfl⟩ | ⟨g, cap, c, rfl, ho, _⟩
  · simp at hn
  · exact ⟨g, cap, c, rfl, ho⟩
theorem app_owns {base n : Nat} (h : w.ownsRow base t E.k v n (E.flat D)) : App E t w v D := by
  obtain ⟨hl, ⟨rfl, rfl⟩ | ⟨g, cap, rfl, _, ho⟩⟩ := own_of h
  · exact .inl ⟨rfl, rfl⟩
  · exact .inr ⟨g, cap, cap, by rw [hl], ho, .inr rfl⟩
theorem app_clip {base : Nat} (h : ClipAt E t base w v D) : App E t w v D := by
  rcases h with h | ⟨b, cap, rfl, _, ho⟩
  · exact .inl h
  · exact .inr ⟨b, cap, D.length, rfl, ho, .inl rfl⟩
/-- an element written over -/
theorem App.write (h : App E t w v D) {g c : Nat} (hv : v = .slice (some ⟨g, 0, none⟩) D.length c) {D' : List α} (hl : D'.length = D.length) (ho : ∀ cap, OwnAt E w t g cap D → OwnAt E w' t g cap D') : App E t w' v D' := by
  subst hv
  rcases h with ⟨h, _⟩ | ⟨g', cap, c', h, ho', hc⟩
  · cases h
  · cases h
    exact .inr ⟨g, cap, c, by rw [hl], ho cap ho', by rw [hl]; exact hc⟩
/-- the row went on in its own block, or in a new one and nothing else has changed -/
def Grow2 (w w' : World) (v v' : Value) : Prop := (v'.ownBlock = v.ownBlock ∧ Kept (fun b => v.ownBlock = some b) w w') ∨ ((∀ b, v'.ownBlock = some b → w.heap.size ≤ b) ∧ Kept (fun _ => False) w w')
theorem grow12 (h : Grow1 w w' v v') : Grow2 w w' v v' := h.imp id fun ⟨e, k⟩ => ⟨fun b hb => by rw [e] at hb; cases hb; exact Nat.le_refl _, k⟩
theorem Grow2.kept (h : Grow2 w w' v v') : Kept (fun b => v.ownBlock = some b) w w' := by
  rcases h with ⟨_, h⟩ | ⟨_, h⟩
  · exact h
  · exact h.mono fun _ _ h => h.elim
theorem run_app {P : Program} (E : Enc α) {w : World} (t ty e : TypeId) (z : Value) (bytes : Nat) (ht : P.underlying t = some (.slice e))
    (hinfo : (P.info? e).map (fun i => (i.zero, i.size, i.bytes)) = some (some z, E.k, bytes)) (hzs : z.cells.size = E.k) (hb4 : bytes ≤ 4096) {v : Value} {D : List α} {x : α}
    (h : App E e w v D) {ad : Addr} {c : Nat} (hL : SlAt E w (.slice (some ad) 1 c) [x]) (h63 : D.length ≤ 1000000) :
    ∃ v' w', (Builtin.append_ #[t, t] ty #[v, .slice (some ad) 1 c]).run P w = .ok v' w' ∧ App E e w' v' (D ++ [x]) ∧ Grow2 w w' v v' := by
  have own : ∀ v, w.ownsRow 0 e E.k v D.length (E.flat D) → ∃ v' w', (Builtin.append_ #[t, t] ty #[v, .slice (some ad) 1 c]).run P w = .ok v' w' ∧ App E e w' v' (D ++ [x]) ∧ Grow2 w w' v v' := fun v hv => by
    obtain ⟨v', w', hr, h2, h3⟩ := run_append_keeps (P := P) E t ty e 0 z bytes ht hinfo hzs hb4 hv hL h63 (Nat.zero_le _)
    exact ⟨v', w', hr, app_owns h2, grow12 h3⟩
  rcases h with ⟨rfl, rfl⟩ | ⟨g, cap, c', rfl, ho, hc⟩
  · exact own _ (World.ownsRow_nil _ _ _ _)
  · by_cases hcc : c' = cap
    · subst hcc
      exact own _ (ho.owns (Nat.zero_le _))
    · obtain rfl : c' = D.length := by rcases hc with h | h; exact h; exact absurd h hcc
      obtain ⟨i, hi, hz, hsize, hby⟩ := info_parts hinfo
      obtain ⟨_, hn⟩ := hL.at_
      have hbb : (D.length + 1) * bytes ≤ 140737488355328 := by
        have : (D.length + 1) * bytes ≤ 1000001 * 4096 := Nat.mul_le_mul (by omega) hb4
        omega
      have hs := (ho.slAt.at_).2
      obtain ⟨v', w', hr, h2, h3⟩ := run_append_arg_grows (P := P) w t ty e i z E.k bytes ht hi hz hsize hby hzs E.pos ⟨g, 0, none⟩ D.length D.length (E.flat D) (E.flat_len D) hs ad 1 c (E.flat [x]) (E.flat_len [x]) hn (by omega) (by unfold maxLen; omega) hbb
      rw [← E.flat_append] at h2
      exact ⟨v', w', hr, app_owns h2, .inr ⟨fun b hb => (owns_lt h2 b hb).1, Kept.grown (Kept.refl _ _) h3 (fun k e _ => by cases e)⟩⟩
theorem wpList_app {P : Program} (E : Enc α) {w : World} {ops : Array Oper} {rest : List Oper} {o : Oper} {a : Act} {Q : Exit → Act → World → Prop} (hgd : o.guard = none) (s y : Operand) (t : TypeId)
    (ho : o.op = .call { callee := .builtin .append, args := #[s, y], argTypes := #[t, t] }) (e : TypeId) (z : Value) (bytes : Nat) (ht : P.underlying t = some (.slice e))
    (hinfo : (P.info? e).map (fun i => (i.zero, i.size, i.bytes)) = some (some z, E.k, bytes)) (hzs : z.cells.size = E.k) (hb4 : bytes ≤ 4096) {v : Value} {D : List α} {x : α} {ad : Addr} {c : Nat} (hs : a.eval s = v) (hx : a.eval y = .slice (some ad) 1 c)
    (hown : App E e w v D) (hL : SlAt E w (.slice (some ad) 1 c) [x]) (h63 : D.length ≤ 1000000)
    (h : ∀ v' w', App E e w' v' (D ++ [x]) → Grow2 w w' v v' → wpList P ops Q rest (a.put o.dst v') w') : wpList P ops Q (o :: rest) a w := by
  refine wpList_plain hgd fun K hK => ?_
  obtain ⟨v', w', hr, h2, h3⟩ := run_app (P := P) E t o.type e z bytes ht hinfo hzs hb4 hown hL h63
  unfold Oper.wp execOp
  simp only [ho, resolve, invoke, builtin, Sem.run_bind, Sem.run_pure, Result.andThen_ok, List.map_toArray, List.map_cons, List.map_nil, hs, hx, hr]
  exact hK _ _ (h v' w' h2 h3)
/-- what one append leaves of a row that has the same beginning -/
theorem grow2_read {X X' : Value} (hV : SlAt E w V D) (hf : V = .slice none 0 0 ∨ ∃ g cap, V = .slice (some ⟨g, 0, none⟩) D.length cap)
    (h : App E t w' X' (D ++ L)) (hg : Grow2 w w' X X') : SlAt E w' V D := by
  rcases hg with ⟨e, hk⟩ | ⟨_, hk⟩
  · by_cases hx : V.ownBlock = X.ownBlock
    · rcases hf with rfl | ⟨g, cap, rfl⟩
      · exact .inl ⟨rfl, hV.none_.1⟩
      · rcases h with ⟨rfl, hn⟩ | ⟨g2, cap2, c2, rfl, hO, _⟩
        · rw [← e] at hx; cases hx
        · rw [← e] at hx
          obtain rfl : g = g2 := by simpa [Value.ownBlock] using hx
          obtain ⟨a, c, h1, h2, h3⟩ := hV.sl
          injection h1 with e1 e2 e3
          subst e3
          refine .inr ⟨⟨g, 0, none⟩, _, rfl, h2, h3, fun _ => rfl, fun i y hy j u hu => ?_⟩
          rw [Nat.zero_add]
          exact hO.cell (by rw [List.getElem?_append_left (List.getElem?_eq_some_iff.1 hy).1]; exact hy) hu
    · exact hV.keep hk (fun b hb _ hb' => hx (by rw [hb, hb']))
  · exact hV.kept hk
end
/-! ### six of them -/
def Firm (H : World → (Nat → Prop) → Prop) : Prop := ∀ (w w' : World) (F S : Nat → Prop), H w F → Kept S w w' → (∀ b, F b → ¬ S b) → H w' F
/-- six things, each in memory of its own, apart from N -/
structure Fam (N : Nat → Prop) (H : Nat → World → (Nat → Prop) → Prop) (w : World) : Prop where
  out : ∃ G : Nat → Nat → Prop, (∀ s, s < 6 → H s w (G s)) ∧ (∀ s, s < 6 → ∀ b, G s b → ¬ N b ∧ b < w.heap.size) ∧ ∀ s t, s < 6 → t < 6 → s ≠ t → ∀ b, G s b → ¬ G t b
  low : ∀ b, N b → b < w.heap.size
section
variable {N : Nat → Prop} {H H' : Nat → World → (Nat → Prop) → Prop} {w w' : World}
theorem Fam.turn (h : Fam N H w) (s0 : Nat) (hs0 : s0 < 6) (hsame : ∀ s, s < 6 → s ≠ s0 → H' s = H s ∧ Firm (H s))
    (step : ∀ F, H s0 w F → (∀ b, F b → ¬ N b ∧ b < w.heap.size) → ∃ S F', Kept S w w' ∧ (∀ b, S b → b < w.heap.size → F b ∨ N b) ∧ H' s0 w' F' ∧ ∀ b, F' b → b < w'.heap.size ∧ (b < w.heap.size → F b)) : Fam N H' w' := by
  obtain ⟨⟨G, h1, h2, h3⟩, hN⟩ := h
  obtain ⟨S, F', k, q1, q2, q3⟩ := step (G s0) (h1 s0 hs0) (h2 s0 hs0)
  have hsz := k.size
  refine ⟨⟨fun s => if s = s0 then F' else G s, fun s hs => ?_, fun s hs b hb => ?_, fun s t hs ht hst b hb hb' => ?_⟩, fun b hb => by have := hN b hb; omega⟩
  · by_cases e0 : s = s0
    · subst e0; simp only [if_pos]; exact q2
    · simp only [e0, if_false]
      obtain ⟨e, hf⟩ := hsame s hs e0
      rw [e]
      have hk' : Kept (fun b => S b ∧ b < w.heap.size) w w' := k.mono (fun i hi h => ⟨h, hi⟩)
      exact hf w w' (G s) _ (h1 s hs) hk' (fun b hb hSb => by
        rcases q1 b hSb.1 hSb.2 with hg | hg
        · exact h3 s s0 hs hs0 e0 b hb hg
        · exact (h2 s hs b hb).1 hg)
  · by_cases e0 : s = s0
    · subst e0
      simp only [if_pos] at hb
      obtain ⟨a1, a2⟩ := q3 b hb
      refine ⟨fun hn => ?_, a1⟩
      exact (h2 s hs0 b (a2 (hN b hn))).1 hn
    · simp only [e0, if_false] at hb
      have := h2 s hs b hb
      exact ⟨this.1, by omega⟩
  · by_cases e0 : s = s0
    · subst e0
      simp only [if_pos] at hb
      simp only [Ne.symm hst, if_false] at hb'
      exact h3 s t hs ht hst b ((q3 b hb).2 (h2 t ht b hb').2) hb'
    · simp only [e0, if_false] at hb
      by_cases f0 : t = s0
      · subst f0
        simp only [if_pos] at hb'
        exact h3 s t hs ht hst b hb ((q3 b hb').2 (h2 s hs b hb).2)
      · simp only [f0, if_false] at hb'
        exact h3 s t hs ht hst b hb hb'
theorem Fam.still {S : Nat → Prop} (h : Fam N H w) (hf : ∀ s, s < 6 → Firm (H s)) (hk : Kept S w w') (hS : ∀ b, S b → b < w.heap.size → N b) : Fam N H w' := by
  refine h.turn 0 (by omega) (fun s hs _ => ⟨rfl, hf s hs⟩) fun F h0 hF => ?_
  have hk' : Kept (fun b => S b ∧ b < w.heap.size) w w' := hk.mono (fun i hi h => ⟨h, hi⟩)
  exact ⟨_, F, hk', fun b hb _ => .inr (hS b hb.1 hb.2), hf 0 (by omega) w w' F _ h0 hk' fun b hb h9 => (hF b hb).1 (hS b h9.1 h9.2), fun b hb => ⟨by have := (hF b hb).2; have := hk.size; omega, fun _ => hb⟩⟩
theorem Fam.congr (h : Fam N H w) (e : ∀ s, s < 6 → H' s = H s) : Fam N H' w := by
  obtain ⟨⟨G, h1, h2, h3⟩, hN⟩ := h
  exact ⟨⟨G, fun s hs => by rw [e s hs]; exact h1 s hs, h2, h3⟩, hN⟩
/-- more that is not theirs -/
theorem Fam.more {N' : Nat → Prop} (h : Fam N H w) (hf : ∀ s, s < 6 → Firm (H s)) (hk : Kept (fun _ => False) w w') (hN : ∀ b, N' b → b < w'.heap.size ∧ (b < w.heap.size → N b)) : Fam N' H w' := by
  obtain ⟨⟨G, h1, h2, h3⟩, _⟩ := h
  have hsz := hk.size
  exact ⟨⟨G, fun s hs => hf s hs w w' (G s) _ (h1 s hs) hk fun _ _ h => h, fun s hs b hb => ⟨fun hn => (h2 s hs b hb).1 ((hN b hn).2 (h2 s hs b hb).2), by have := (h2 s hs b hb).2; omega⟩, h3⟩, fun b hb => (hN b hb).1⟩
end
/-- a row: none (0); so many of its elements written over (1); gone on from by so many (2) -/
def HG {α : Type} (E : Enc α) (t : TypeId) (a1 a2 : α) (D : List α) (k m : Nat) (v x : Value) (w : World) (F : Nat → Prop) : Prop :=
  (k = 0 ∧ ∀ b, ¬ F b) ∨
  (k = 1 ∧ (∀ b, v.ownBlock = some b → F b) ∧ App E t w v (List.replicate m a1 ++ D.drop m)) ∨
  (k = 2 ∧ (∀ b, v.ownBlock = some b → F b) ∧ (∀ b, x.ownBlock = some b → F b) ∧ (v = .slice none 0 0 ∨ ∃ g c, v = .slice (some ⟨g, 0, none⟩) D.length c) ∧ SlAt E w v (List.replicate D.length a1) ∧ App E t w x (List.replicate D.length a1 ++ List.replicate m a2))
section
variable {α : Type} {E : Enc α} {t : TypeId} {a1 a2 : α} {D : List α} {m : Nat} {v x v' x' : Value} {w w' : World} {F : Nat → Prop}
theorem HG.firm (E : Enc α) (t : TypeId) (a1 a2 : α) (D : List α) (k m : Nat) (v x : Value) : Firm (HG E t a1 a2 D k m v x) := by
  rintro w w' F S (h1 | ⟨h1, h2, h3⟩ | ⟨h1, h2, h3, h4, h5, h6⟩) hk hs
  · exact .inl h1
  · exact .inr (.inl ⟨h1, h2, h3.keep hk fun b hb => hs b (h2 b hb)⟩)
  · exact .inr (.inr ⟨h1, h2, h3, h4, h5.keep hk (fun b hb _ => hs b (h2 b hb)), h6.keep hk fun b hb => hs b (h3 b hb)⟩)
theorem HG.one (h : HG E t a1 a2 D 1 m v x w F) : (∀ b, v.ownBlock = some b → F b) ∧ App E t w v (List.replicate m a1 ++ D.drop m) := by
  rcases h with h | h | h
  · exact absurd h.1 (by decide)
  · exact h.2
  · exact absurd h.1 (by decide)
theorem HG.two (h : HG E t a1 a2 D 2 m v x w F) : (∀ b, v.ownBlock = some b → F b) ∧ (∀ b, x.ownBlock = some b → F b) ∧ (v = .slice none 0 0 ∨ ∃ g c, v = .slice (some ⟨g, 0, none⟩) D.length c) ∧ SlAt E w v (List.replicate D.length a1) ∧ App E t w x (List.replicate D.length a1 ++ List.replicate m a2) := by
  rcases h with h | h | h
  · exact absurd h.1 (by decide)
  · exact absurd h.1 (by decide)
  · exact h.2
end
def up {β : Type} (f : Nat → β) (s : Nat) (y : β) : Nat → β := fun t => if t = s then y else f t
theorem up_at {β : Type} (f : Nat → β) (s : Nat) (y : β) : up f s y s = y := by simp [up]
theorem up_ne {β : Type} (f : Nat → β) {s t : Nat} (y : β) (h : t ≠ s) : up f s y t = f t := by simp [up, h]
end Go.Proofs.Ytlafodnaifghcaa.Tr
