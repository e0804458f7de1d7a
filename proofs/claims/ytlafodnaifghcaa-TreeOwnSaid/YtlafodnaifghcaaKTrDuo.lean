/- Two documents side by side, and rows apart from both: what a call on the one leaves. -/
import Derived.Test.YtlafodnaifghcaaK34
import Derived.Test.YtlafodnaifghcaaK36
namespace Go.Proofs.Ytlafodnaifghcaa.Tr
open Go.RowKit Go.Sort Go.Proofs.Ytlafodnaifghcaa.St Go.Proofs.Ytlafodnaifghcaa.Gl Go.Proofs.Ytlafodnaifghcaa
theorem own_pre {α : Type} {E : Enc α} {w : World} {t : TypeId} {g cap : Nat} {D : List α} (h : OwnAt E w t g cap D) {n : Nat} (hn : n ≤ D.length) : SlAt E w (.slice (some ⟨g, 0, none⟩) n cap) (D.take n) := by
  have := (h.take n).slAt
  rwa [List.length_take, Nat.min_eq_left hn] at this
theorem own_suf {α : Type} {E : Enc α} {w : World} {t : TypeId} {g cap : Nat} {D : List α} (h : OwnAt E w t g cap D) {n : Nat} (hn : n ≤ D.length) : SlAt E w (.slice (some ⟨g, n * E.k, none⟩) (D.length - n) (cap - n)) (D.drop n) := by
  have hle := h.le
  refine .inr ⟨⟨g, n * E.k, none⟩, cap - n, by rw [List.length_drop], by rw [List.length_drop]; omega, by omega, fun _ => rfl, fun i y hy j u hu => ?_⟩
  rw [List.getElem?_drop] at hy
  have := h.cell hy hu
  rw [Nat.add_mul, Nat.add_assoc] at this
  exact this
theorem sl_void {α : Type} {E : Enc α} {w : World} (a : Addr) {c : Nat} (hc : c ≤ maxLen) : SlAt E w (.slice (some a) 0 c) [] := .inr ⟨a, c, rfl, Nat.zero_le _, hc, fun h => absurd rfl h, fun i y hy => by simp at hy⟩
section
variable {w wr w' W1 : World} {g ga gb : Nat} {L La Lb : List Nd} {X : Nat → Prop}
theorem TBox.nodes {F : Nat → Prop} (h : TBox wr g L F) (hlen : L.length ≤ 900000) :
    Calls Try.prog 20 #[.pointer (some ⟨g, 0, none⟩)] wr fun e w' => (∃ a c, e = .returned (.slice a L.length c) ∧ SlAt nodeE w' (.slice a L.length c) L ∧ ∀ b, (Value.slice a L.length c).ownBlock = some b → wr.heap.size ≤ b) ∧ Kept (fun _ => False) wr w' := by
  obtain ⟨A, S, mp, h1, _⟩ := h.at_
  refine (nodes_any h1 h.doc hlen).mono ?_
  rintro e w' ⟨⟨v, rfl, hc⟩, hk⟩
  refine ⟨?_, hk⟩
  rcases hc with ⟨rfl, rfl⟩ | ⟨b, cap, rfl, hb, ho⟩
  · exact ⟨none, 0, rfl, .inl ⟨rfl, rfl⟩, fun b hb => by cases hb⟩
  · exact ⟨_, _, rfl, .inr ⟨⟨b, 0, none⟩, L.length, rfl, Nat.le_refl _, by have := ho.le; omega, fun _ => rfl, fun i y hy j u hu => by rw [Nat.zero_add]; exact ho.cell hy hu⟩, fun b' hb' => by cases hb'; exact hb⟩
/-- two documents made behind W1, apart from one another and from what X holds -/
structure D2 (W1 : World) (X : Nat → Prop) (ga gb : Nat) (La Lb : List Nd) (w : World) : Prop where
  kept : Kept (fun _ => False) W1 w
  boxes : ∃ Fa Fb, TBox w ga La Fa ∧ TBox w gb Lb Fb ∧ (∀ x, Fa x → W1.heap.size ≤ x ∧ x < w.heap.size ∧ ¬ Fb x ∧ ¬ X x) ∧ ∀ x, Fb x → W1.heap.size ≤ x ∧ x < w.heap.size ∧ ¬ X x
  held : ∀ x, X x → x < w.heap.size
theorem D2.swap (h : D2 W1 X ga gb La Lb w) : D2 W1 X gb ga Lb La w := by
  obtain ⟨hk, ⟨Fa, Fb, ha, hb, h1, h2⟩, h3⟩ := h
  exact ⟨hk, ⟨Fb, Fa, hb, ha, fun x hx => ⟨(h2 x hx).1, (h2 x hx).2.1, fun hx2 => (h1 x hx2).2.2.1 hx, (h2 x hx).2.2⟩, fun x hx => ⟨(h1 x hx).1, (h1 x hx).2.1, (h1 x hx).2.2.2⟩⟩, h3⟩
/-- a step on the one document -/
theorem D2.step {Lb' : List Nd} (h : D2 W1 X ga gb La Lb w) (hs : ∀ Fb, TBox w gb Lb Fb → TBox w' gb Lb' (grown Fb w w') ∧ Kept Fb w w') : D2 W1 X ga gb La Lb' w' ∧ Kept (fun x => W1.heap.size ≤ x ∧ ¬ X x) w w' := by
  obtain ⟨hk, ⟨Fa, Fb, ha, hb, h1, h2⟩, h3⟩ := h
  obtain ⟨k1, k2⟩ := hs Fb hb
  have hsz := k2.size
  have k3 : Kept (fun x => W1.heap.size ≤ x ∧ ¬ X x) w w' := k2.mono fun x _ hx => ⟨(h2 x hx).1, (h2 x hx).2.2⟩
  refine ⟨⟨hk.trans k3 fun b hb h9 => by omega, ⟨Fa, grown Fb w w', ha.keep k2 fun b hb => (h1 b hb).2.2.1, k1, fun x hx => ?_, fun x hx => ?_⟩, fun x hx => by have := h3 x hx; omega⟩, k3⟩
  · obtain ⟨a1, a2, a3, a4⟩ := h1 x hx
    exact ⟨a1, by omega, fun hh => hh.elim a3 fun hh => by omega, a4⟩
  · rcases hx with hx | hx
    · obtain ⟨a1, a2, a3⟩ := h2 x hx
      exact ⟨a1, by omega, a3⟩
    · exact ⟨by have := hk.size; omega, hx.2, fun hh => by have := h3 x hh; omega⟩
theorem grown_of {F : Nat → Prop} (h : TBox w' g L F) : TBox w' g L (grown F w w') := h.mono fun _ h => .inl h
theorem D2.still (h : D2 W1 X ga gb La Lb w) (hk : Kept (fun _ => False) w w') : D2 W1 X ga gb La Lb w' :=
  (h.step fun _ hb => ⟨grown_of (hb.still hk), hk.mono fun _ _ h => h.elim⟩).1
/-- rows that are turned, rows that come -/
theorem D2.rows {X' : Nat → Prop} {S : Nat → Prop} (h : D2 W1 X ga gb La Lb w) (hk : Kept S w w') (hS : ∀ b, S b → b < w.heap.size → X b ∧ W1.heap.size ≤ b) (hX : ∀ b, X' b → b < w'.heap.size ∧ (b < w.heap.size → X b)) : D2 W1 X' ga gb La Lb w' := by
  obtain ⟨h0, ⟨Fa, Fb, ha, hb, h1, h2⟩, h3⟩ := h
  have hsz := hk.size
  have hk' : Kept (fun b => S b ∧ b < w.heap.size) w w' := hk.mono fun b hb h => ⟨h, hb⟩
  refine ⟨h0.trans hk' fun b hb h9 => by have := (hS b h9.1 h9.2).2; omega, ⟨Fa, Fb, ha.keep hk' fun b hb h9 => (h1 b hb).2.2.2 (hS b h9.1 h9.2).1, hb.keep hk' fun b hb h9 => (h2 b hb).2.2 (hS b h9.1 h9.2).1, fun x hx => ?_, fun x hx => ?_⟩, fun x hx => (hX x hx).1⟩
  · obtain ⟨a1, a2, a3, a4⟩ := h1 x hx
    exact ⟨a1, by omega, a3, fun hh => a4 ((hX x hh).2 a2)⟩
  · obtain ⟨a1, a2, a3⟩ := h2 x hx
    exact ⟨a1, by omega, fun hh => a3 ((hX x hh).2 a2)⟩
theorem D2.insB (h : D2 W1 X ga gb La Lb w) (x : Lad) (hs : x.text.size ≤ maxLen) (hlen : Lb.length + countR x.text ≤ 900000) :
    Calls Try.prog 13 #[.pointer (some ⟨gb, 0, none⟩), .agg #[.int .i64 x.id.t, .int .i64 x.id.s], .agg #[.int .i64 x.ref.t, .int .i64 x.ref.s], .string x.text] w fun e w' => e = .returned (.int .i64 (insXE Lb x)) ∧ D2 W1 X ga gb La (insX Lb x) w' ∧ Kept (fun x => W1.heap.size ≤ x ∧ ¬ X x) w w' := by
  obtain ⟨hk, ⟨Fa, Fb, ha, hb, h1, h2⟩, h3⟩ := h
  refine (hb.insert x.id x.ref x.text hs hlen).mono ?_
  rintro e w' ⟨he, k1, k2⟩
  have hsz := k2.size
  have k3 : Kept (fun x => W1.heap.size ≤ x ∧ ¬ X x) w w' := k2.mono fun x _ hx => ⟨(h2 x hx).1, (h2 x hx).2.2⟩
  refine ⟨he, ⟨hk.trans k3 fun b hb h9 => by omega, ⟨Fa, grown Fb w w', ha.keep k2 fun b hb => (h1 b hb).2.2.1, k1, fun x hx => ?_, fun x hx => ?_⟩, fun x hx => by have := h3 x hx; omega⟩, k3⟩
  · obtain ⟨a1, a2, a3, a4⟩ := h1 x hx
    exact ⟨a1, by omega, fun hh => hh.elim a3 fun hh => by omega, a4⟩
  · rcases hx with hx | hx
    · obtain ⟨a1, a2, a3⟩ := h2 x hx
      exact ⟨a1, by omega, a3⟩
    · exact ⟨by have := hk.size; omega, hx.2, fun hh => by have := h3 x hh; omega⟩
theorem D2.insA (h : D2 W1 X ga gb La Lb w) (x : Lad) (hs : x.text.size ≤ maxLen) (hlen : La.length + countR x.text ≤ 900000) :
    Calls Try.prog 13 #[.pointer (some ⟨ga, 0, none⟩), .agg #[.int .i64 x.id.t, .int .i64 x.id.s], .agg #[.int .i64 x.ref.t, .int .i64 x.ref.s], .string x.text] w fun e w' => e = .returned (.int .i64 (insXE La x)) ∧ D2 W1 X ga gb (insX La x) Lb w' ∧ Kept (fun x => W1.heap.size ≤ x ∧ ¬ X x) w w' :=
  (h.swap.insB x hs hlen).mono fun _ _ ⟨he, h1, h2⟩ => ⟨he, h1.swap, h2⟩
theorem D2.delB (h : D2 W1 X ga gb La Lb w) (hlen : Lb.length ≤ 900000) {v : Value} {rs : List Run} (hv : SlAt runE W1 v rs) (hin : ∀ r ∈ rs, r.In) (hrl : rs.length ≤ 1000000000) (hvb : ∀ b, v.ownBlock = some b → b < W1.heap.size) :
    Calls Try.prog 14 #[.pointer (some ⟨gb, 0, none⟩), v] w fun e w' => e = .returned (.int .i64 (turnN rs 1 Lb)) ∧ D2 W1 X ga gb La (Lb.map (turnF rs 1 2)) w' ∧ Kept (fun x => W1.heap.size ≤ x ∧ ¬ X x) w w' := by
  have h0 := h
  obtain ⟨hk, ⟨Fa, Fb, ha, hb, h1, h2⟩, h3⟩ := h
  refine (hb.delete hlen (hv.kept hk) hin hrl fun b hb _ hF => by have := hvb b hb; have := (h2 b hF).1; omega).mono ?_
  rintro e w' ⟨he, k1, k2⟩
  have hsz := k2.size
  have k3 : Kept (fun x => W1.heap.size ≤ x ∧ ¬ X x) w w' := k2.mono fun x _ hx => ⟨(h2 x hx).1, (h2 x hx).2.2⟩
  refine ⟨he, ⟨hk.trans k3 fun b hb h9 => by omega, ⟨Fa, Fb, ha.keep k2 fun b hb => (h1 b hb).2.2.1, k1, fun x hx => ?_, fun x hx => ?_⟩, fun x hx => by have := h3 x hx; omega⟩, k3⟩
  · obtain ⟨a1, a2, a3, a4⟩ := h1 x hx
    exact ⟨a1, by omega, a3, a4⟩
  · obtain ⟨a1, a2, a3⟩ := h2 x hx
    exact ⟨a1, by omega, a3⟩
theorem D2.delA (h : D2 W1 X ga gb La Lb w) (hlen : La.length ≤ 900000) {v : Value} {rs : List Run} (hv : SlAt runE W1 v rs) (hin : ∀ r ∈ rs, r.In) (hrl : rs.length ≤ 1000000000) (hvb : ∀ b, v.ownBlock = some b → b < W1.heap.size) :
    Calls Try.prog 14 #[.pointer (some ⟨ga, 0, none⟩), v] w fun e w' => e = .returned (.int .i64 (turnN rs 1 La)) ∧ D2 W1 X ga gb (La.map (turnF rs 1 2)) Lb w' ∧ Kept (fun x => W1.heap.size ≤ x ∧ ¬ X x) w w' :=
  (h.swap.delB hlen hv hin hrl hvb).mono fun _ _ ⟨he, h1, h2⟩ => ⟨he, h1.swap, h2⟩
theorem D2.nodesB (h : D2 W1 X ga gb La Lb w) (hlen : Lb.length ≤ 900000) :
    Calls Try.prog 20 #[.pointer (some ⟨gb, 0, none⟩)] w fun e w' => ∃ a c, e = .returned (.slice a Lb.length c) ∧ SlAt nodeE w' (.slice a Lb.length c) Lb ∧ D2 W1 X ga gb La Lb w' ∧ Kept (fun _ => False) w w' := by
  obtain ⟨Fa, Fb, ha, hb, h1, h2⟩ := h.boxes
  exact (hb.nodes hlen).mono fun e w' ⟨⟨a, c, he, h8, _⟩, hk⟩ => ⟨a, c, he, h8, h.still hk, hk⟩
theorem D2.nodesA (h : D2 W1 X ga gb La Lb w) (hlen : La.length ≤ 900000) :
    Calls Try.prog 20 #[.pointer (some ⟨ga, 0, none⟩)] w fun e w' => ∃ a c, e = .returned (.slice a La.length c) ∧ SlAt nodeE w' (.slice a La.length c) La ∧ D2 W1 X ga gb La Lb w' ∧ Kept (fun _ => False) w w' :=
  (h.swap.nodesB hlen).mono fun _ _ ⟨a, c, he, h8, h9, hk⟩ => ⟨a, c, he, h8, h9.swap, hk⟩
theorem D2.textB (h : D2 W1 X ga gb La Lb w) (hlen : Lb.length ≤ 900000) : Calls Try.prog 17 #[.pointer (some ⟨gb, 0, none⟩)] w fun e w' => e = .returned (.string (runeText ((shL Lb).map Nd.rune))) ∧ D2 W1 X ga gb La Lb w' := by
  obtain ⟨Fa, Fb, ha, hb, h1, h2⟩ := h.boxes
  exact (hb.text hlen).mono fun e w' ⟨he, hk⟩ => ⟨by rw [he]; unfold Tr.textB runeText; rw [List.flatMap_map], h.still hk⟩
theorem D2.textA (h : D2 W1 X ga gb La Lb w) (hlen : La.length ≤ 900000) : Calls Try.prog 17 #[.pointer (some ⟨ga, 0, none⟩)] w fun e w' => e = .returned (.string (runeText ((shL La).map Nd.rune))) ∧ D2 W1 X ga gb La Lb w' :=
  (h.swap.textB hlen).mono fun _ _ ⟨he, h9⟩ => ⟨he, h9.swap⟩
/-- two new ones -/
theorem D2.made (W1 : World) : D2 W1 (fun _ => False) W1.heap.size (W1.heap.size + 1) [] [] ((W1.alloc (.cells #[.slice none 0 0, .map none] 88)).alloc (.cells #[.slice none 0 0, .map none] 88)) := by
  obtain ⟨w1, hw1⟩ : ∃ w1, W1.alloc (.cells #[.slice none 0 0, .map none] 88) = w1 := ⟨_, rfl⟩
  have h1 := TBox.made W1
  have h2 := TBox.made w1
  have hs : w1.heap.size = W1.heap.size + 1 := by rw [← hw1]; exact World.size_alloc W1 _
  have hs2 : (w1.alloc (.cells #[.slice none 0 0, .map none] 88)).heap.size = w1.heap.size + 1 := World.size_alloc w1 _
  rw [hw1] at h1 ⊢
  refine ⟨?_, ⟨_, _, h1.still ((Kept.refl _ _).alloc _), hs ▸ h2, fun x hx => ?_, fun x hx => ?_⟩, fun x hx => hx.elim⟩
  · rw [← hw1]; exact ((Kept.refl _ _).alloc _).alloc _
  · have hx : x = W1.heap.size := hx
    exact ⟨by omega, by omega, fun hh => by have hh : x = W1.heap.size + 1 := hh; omega, fun h => h⟩
  · have hx : x = W1.heap.size + 1 := hx
    exact ⟨by omega, by omega, fun h => h⟩
end
end Go.Proofs.Ytlafodnaifghcaa.Tr
