/- Two pairs of Alarms. -/
import Derived.Test.YtmfjeeogeilgfaaAlSteps
namespace Go.Proofs.Ytmfjeeogeilgfaa.Al
open Go.RowKit
/-- two pairs of Alarms, apart, made since w -/
def Two (w : World) (A B : Nat) (l m : Int) (n : Nat) (A2 B2 : Nat) (l2 m2 : Int) (n2 : Nat) (w' : World) : Prop :=
  ∃ ts F G ts2 F2 G2, Pair w' A B l m ts F G ∧ Pair w' A2 B2 l2 m2 ts2 F2 G2 ∧ ts.length ≤ n ∧ ts2.length ≤ n2 ∧ (∀ b, F b ∨ G b → ¬ (F2 b ∨ G2 b)) ∧
    (∀ b, b < w.heap.size → ¬ (F b ∨ G b)) ∧ (∀ b, b < w.heap.size → ¬ (F2 b ∨ G2 b)) ∧ Kept (fun _ => False) w w'
section
variable {w w1 : World} {A B A2 B2 : Nat} {l m l2 m2 : Int} {n n2 k k2 : Nat}
theorem Two.swap (h : Two w A B l m n A2 B2 l2 m2 n2 w1) : Two w A2 B2 l2 m2 n2 A B l m n w1 := by
  obtain ⟨ts, F, G, ts2, F2, G2, h1, h2, h3, h4, h5, h6, h7, h8⟩ := h
  exact ⟨ts2, F2, G2, ts, F, G, h2, h1, h4, h3, fun b hb hc => h5 b hc hb, h7, h6, h8⟩
theorem Two.le (h : Two w A B l m n A2 B2 l2 m2 n2 w1) (hk : n ≤ k) (hk2 : n2 ≤ k2) : Two w A B l m k A2 B2 l2 m2 k2 w1 := by
  obtain ⟨ts, F, G, ts2, F2, G2, h1, h2, h3, h4, h5⟩ := h
  exact ⟨ts, F, G, ts2, F2, G2, h1, h2, by omega, by omega, h5⟩
theorem Two.kept (h : Two w A B l m n A2 B2 l2 m2 n2 w1) : Kept (fun _ => False) w w1 := by
  obtain ⟨ts, F, G, ts2, F2, G2, h1, h2, h3, h4, h5, h6, h7, h8⟩ := h
  exact h8
theorem PairIn.kept (h : PairIn w A B l m n w1) : Kept (fun _ => False) w w1 := by
  obtain ⟨ts, F, G, h1, h2, h3, h4⟩ := h
  exact h4
theorem PairIn.le (h : PairIn w A B l m n w1) (hk : n ≤ k) : PairIn w A B l m k w1 := by
  obtain ⟨ts, F, G, h1, h2, h3, h4⟩ := h
  exact ⟨ts, F, G, h1, by omega, h3, h4⟩
theorem does_in (h : PairIn w A B l m n w1) (kind key now : Int) (hn : n < 1000000) :
    Calls Try.prog 13 #[.pointer (some ⟨A, 0, none⟩), .pointer (some ⟨B, 0, none⟩), .agg #[.int .i64 kind, .int .i64 key, .int .i64 now]] w1 fun e w' => e = .returned (.bool true) ∧ PairIn w A B l m (n + 1) w' := by
  obtain ⟨ts, F, G, h1, h2, h3, h4⟩ := h
  refine (does_any h1 kind key now (by omega)).mono ?_
  rintro e w' ⟨rfl, hg⟩
  exact ⟨rfl, PairIn.next h2 h3 h4 hg⟩
theorem does_two (h : Two w A B l m n A2 B2 l2 m2 n2 w1) (kind key now : Int) (hn : n < 1000000) :
    Calls Try.prog 13 #[.pointer (some ⟨A, 0, none⟩), .pointer (some ⟨B, 0, none⟩), .agg #[.int .i64 kind, .int .i64 key, .int .i64 now]] w1 fun e w' => e = .returned (.bool true) ∧ Two w A B l m (n + 1) A2 B2 l2 m2 n2 w' := by
  obtain ⟨ts, F, G, ts2, F2, G2, h1, h2, h3, h4, h5, h6, h7, h8⟩ := h
  refine (does_any h1 kind key now (by omega)).mono ?_
  rintro e w' ⟨rfl, us, F', G', hP, hu, hs, hk⟩
  have := h8.size
  refine ⟨rfl, us, F', G', ts2, F2, G2, hP, h2.keep hk (fun b hb hc => h5 b hc hb), by omega, h4, fun b hb hc => ?_, fun b hb hc => h6 b hb (hs b (by omega) hc), h7, h8.trans hk h6⟩
  have hlt : b < w1.heap.size := by
    rcases hc with hc | hc
    · exact h2.a.lt b hc
    · exact h2.b.lt b hc
  exact h5 b (hs b hlt hb) hc
theorem does_two2 (h : Two w A B l m n A2 B2 l2 m2 n2 w1) (kind key now : Int) (hn : n2 < 1000000) :
    Calls Try.prog 13 #[.pointer (some ⟨A2, 0, none⟩), .pointer (some ⟨B2, 0, none⟩), .agg #[.int .i64 kind, .int .i64 key, .int .i64 now]] w1 fun e w' => e = .returned (.bool true) ∧ Two w A B l m n A2 B2 l2 m2 (n2 + 1) w' := by
  refine (does_two h.swap kind key now hn).mono ?_
  rintro e w' ⟨rfl, hg⟩
  exact ⟨rfl, hg.swap⟩
/-- four times New, in the order a, b, w, x -/
theorem Two.new {w0 w2 w3 w4 : World} (hA : AlarmAt w1 w0.heap.size l m [] (fun b => b = w0.heap.size)) (k1 : Kept (fun _ => False) w0 w1)
    (hA2 : AlarmAt w2 w1.heap.size l2 m2 [] (fun b => b = w1.heap.size)) (k2 : Kept (fun _ => False) w1 w2)
    (hB : RefAt w3 w2.heap.size l m (.slice none 0 0) []) (k3 : Kept (fun _ => False) w2 w3) (hB2 : RefAt w4 w3.heap.size l2 m2 (.slice none 0 0) []) (k4 : Kept (fun _ => False) w3 w4) :
    Two w0 w0.heap.size w2.heap.size l m 0 w1.heap.size w3.heap.size l2 m2 0 w4 := by
  have n0 : ∀ {w : World} (b : Nat), b < w.heap.size → ¬ (False : Prop) := fun _ _ h => h
  have hA : AlarmIs w1 w0.heap.size l m [] (fun b => b = w0.heap.size) := ⟨[], hA, List.Perm.refl _⟩
  have hA2 : AlarmIs w2 w1.heap.size l2 m2 [] (fun b => b = w1.heap.size) := ⟨[], hA2, List.Perm.refl _⟩
  have s0 := hA.lt _ rfl
  have s1 := hA2.lt _ rfl
  have s2 := hB.lt w2.heap.size (.inl rfl)
  have hA := ((hA.keep k2 (fun _ _ h => h)).keep k3 (fun _ _ h => h)).keep k4 (fun _ _ h => h)
  have hA2 := (hA2.keep k3 (fun _ _ h => h)).keep k4 (fun _ _ h => h)
  have hB : RefIs w3 w2.heap.size l m [] _ := ⟨_, [], hB, List.Perm.refl _, rfl, hA.good⟩
  have hB2 : RefIs w4 w3.heap.size l2 m2 [] _ := ⟨_, [], hB2, List.Perm.refl _, rfl, hA2.good⟩
  have e1 : ∀ b c, RF c (.slice none 0 0) b → b = c := fun b c h => by
    rcases h with h | h
    · exact h
    · simp [Value.ownBlock] at h
  refine ⟨[], _, _, [], _, _, ⟨hA, hB.keep k4 (fun _ _ h => h), fun b hb hg => ?_⟩, ⟨hA2, hB2, fun b hb hg => ?_⟩, Nat.le_refl _, Nat.le_refl _, fun b h h' => ?_, fun b hb h => ?_, fun b hb h => ?_,
    ((k1.trans k2 (fun _ _ h => h)).trans k3 (fun _ _ h => h)).trans k4 (fun _ _ h => h)⟩
  · have := e1 _ _ hg; omega
  · have := e1 _ _ hg; omega
  · rcases h with h | h <;> rcases h' with h' | h' <;> (try have := e1 _ _ h) <;> (try have := e1 _ _ h') <;> omega
  · rcases h with h | h <;> (try have := e1 _ _ h) <;> omega
  · rcases h with h | h <;> (try have := e1 _ _ h) <;> omega
end
end Go.Proofs.Ytmfjeeogeilgfaa.Al
