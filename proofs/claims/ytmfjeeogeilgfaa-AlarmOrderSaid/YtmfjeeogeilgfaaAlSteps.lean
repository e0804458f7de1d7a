/- Scripts: an argument of type []Step, opened; a pair of Alarms that goes on. -/
import Derived.Test.YtmfjeeogeilgfaaAlKnown
import Derived.Deep.Slices
import Derived.Deep.Fields
import Derived.ChangeSame
namespace Go.Proofs.Ytmfjeeogeilgfaa.Al
open Go.RowKit

structure S3 where
  kind : Int
  key : Int
  now : Int
/-- a script in memory -/
def StepsAt (w : World) (v : Value) (L : List S3) : Prop :=
  (v = .slice none 0 0 ∧ L = []) ∨ ∃ x c, v = .slice (some x) L.length c ∧ L.length ≤ maxLen ∧ ∀ (i : Nat) (s : S3), L[i]? = some s →
    w.cell? (x.add (i * 3)) = some (.int .i64 s.kind) ∧ w.cell? ⟨(x.add (i * 3)).block, (x.add (i * 3)).off + 1, none⟩ = some (.int .i64 s.key) ∧ w.cell? ⟨(x.add (i * 3)).block, (x.add (i * 3)).off + 2, none⟩ = some (.int .i64 s.now)
theorem StepsAt.sl {w : World} {v : Value} {L : List S3} (h : StepsAt w v L) : ∃ a c, v = .slice a L.length c := by
  rcases h with ⟨rfl, rfl⟩ | ⟨x, c, rfl, _⟩
  · exact ⟨_, _, rfl⟩
  · exact ⟨_, _, rfl⟩
theorem cell_old {w w' : World} {S : Nat → Prop} (hk : Kept S w w') (hS : ∀ b, b < w.heap.size → ¬ S b) {a : Addr} {v : Value} (h : w.cell? a = some v) : w'.cell? a = some v := by
  have hlt : a.block < w.heap.size := by
    by_cases hl : a.block < w.heap.size
    · exact hl
    · have : w.heap[a.block]? = none := by simp; omega
      simp [World.cell?, this] at h
  have e := hk.block a.block hlt (hS _ hlt)
  unfold World.cell? at *
  rw [e]
  exact h
theorem StepsAt.keep {w w' : World} {v : Value} {L : List S3} {S : Nat → Prop} (h : StepsAt w v L) (hk : Kept S w w') (hS : ∀ b, b < w.heap.size → ¬ S b) : StepsAt w' v L := by
  rcases h with h | ⟨x, c, hv, hm, h⟩
  · exact .inl h
  · exact .inr ⟨x, c, hv, hm, fun i s hs => ⟨cell_old hk hS (h i s hs).1, cell_old hk hS (h i s hs).2.1, cell_old hk hS (h i s hs).2.2⟩⟩

section
open Go.ChangeShapes Go.WideShapes Go.Deep
variable {H : Type} {enc : TypeId × Value → H} {w : World} {base b0 : Nat} {spare : Nat → Bool} {held : Bool}
theorem list_of_all {α : Type} : ∀ (n : Nat) (P : Nat → α → Prop), (∀ i, i < n → ∃ s, P i s) → ∃ L : List α, L.length = n ∧ ∀ (i : Nat) (s : α), L[i]? = some s → P i s
  | 0, _, _ => ⟨[], rfl, fun i s hs => by simp at hs⟩
  | n + 1, P, h => by
    obtain ⟨L, hL, hP⟩ := list_of_all n P (fun i hi => h i (by omega))
    obtain ⟨s, hs⟩ := h n (by omega)
    refine ⟨L ++ [s], by simp [hL], fun i t ht => ?_⟩
    by_cases hi : i < L.length
    · rw [List.getElem?_append_left hi] at ht; exact hP i t ht
    · rw [List.getElem?_append_right (by omega)] at ht
      have : i - L.length = 0 := by have := (List.getElem?_eq_some_iff.1 ht).1; simp at this; omega
      rw [this] at ht
      simp at ht
      subst ht
      have : i = n := by omega
      subst this
      exact hs
theorem fields_step : ∃ f0 f1 f2 : Field, Try.prog.underlying 35 = some (.struct #[f0, f1, f2]) ∧ oneCellFields Try.prog #[f0, f1, f2] = true ∧ f0.type = 3 ∧ f1.type = 3 ∧ f2.type = 3 :=
  ⟨_, _, _, Try.underlying35, by kernel_rfl, rfl, rfl, rfl⟩
theorem open_steps {r : Reach} {v : Value} {d : DataW H} {ps : List MemPlace} (hv : Value.okWide Try.prog w r b0 32 v)
    (h : DataW.Trod enc Try.prog w base spare held 32 v d ps) : ∃ L, StepsAt w v L := by
  obtain ⟨a, len, cap, rfl⟩ := okWide_slice Try.underlying32 hv
  obtain ⟨f0, f1, f2, hs, hone, e0, e1, e2⟩ := fields_step
  obtain ⟨fuel, hf⟩ := h
  rcases open_slice Try.underlying32 hf with ⟨hcs, _⟩ | ⟨x, l, c, m, n, D, Pl, hcs, _, hl, hm, hmm, _, hi⟩
  · simp [Value.cells] at hcs
    obtain ⟨rfl, rfl, rfl⟩ := hcs
    exact ⟨[], .inl ⟨rfl, rfl⟩⟩
  · simp [Value.cells] at hcs
    obtain ⟨rfl, rfl, rfl⟩ := hcs
    have hml : len ≤ m := by rw [hmm]; split <;> omega
    have hC : Try.prog.cellsOf 35 = 3 := by kernel_rfl
    have hall : ∀ i, i < len → ∃ s : S3, w.cell? (x.add (i * 3)) = some (.int .i64 s.kind) ∧ w.cell? ⟨(x.add (i * 3)).block, (x.add (i * 3)).off + 1, none⟩ = some (.int .i64 s.key) ∧ w.cell? ⟨(x.add (i * 3)).block, (x.add (i * 3)).off + 2, none⟩ = some (.int .i64 s.now) := by
      intro i hil
      obtain ⟨cs, hc, ht⟩ := hi i (by omega)
      rw [hC] at hc
      obtain ⟨ys, n', _, _, hlen, hyl, hg⟩ := DataW.trod_struct hs ht
      rw [hC] at hlen
      obtain ⟨_, _, hat⟩ := World.cells?_some hc
      match cs, hlen with
      | [c0, c1, c2], _ =>
        match ys, hyl with
        | [y0, y1, y2], _ =>
          obtain ⟨o0, k0⟩ := hone_of hone 0 f0 rfl
          obtain ⟨o1, k1⟩ := hone_of hone 1 f1 rfl
          obtain ⟨o2, k2⟩ := hone_of hone 2 f2 rfl
          have g0 := hg 0 f0 rfl
          have g1 := hg 1 f1 rfl
          have g2 := hg 2 f2 rfl
          rw [o0, k0, e0] at g0
          rw [o1, k1, e1] at g1
          rw [o2, k2, e2] at g2
          obtain ⟨n0, z0, _, _⟩ := DataW.trod_int Try.underlying3 g0
          obtain ⟨n1, z1, _, _⟩ := DataW.trod_int Try.underlying3 g1
          obtain ⟨n2, z2, _, _⟩ := DataW.trod_int Try.underlying3 g2
          simp at z0 z1 z2
          subst z0 z1 z2
          have a0 := hat 0 (by decide)
          have a1 := hat 1 (by decide)
          have a2 := hat 2 (by decide)
          exact ⟨⟨n0, n1, n2⟩, by simpa [Go.Deep.add_add] using a0, a1, a2⟩
    obtain ⟨L, hL, hS⟩ := list_of_all len _ hall
    subst hL
    exact ⟨L, .inr ⟨x, cap, rfl, by omega, hS⟩⟩
end

/-- a pair of Alarms in memory made since w, with at most n timers -/
def PairIn (w : World) (A B : Nat) (l m : Int) (n : Nat) (w' : World) : Prop :=
  ∃ ts F G, Pair w' A B l m ts F G ∧ ts.length ≤ n ∧ (∀ b, b < w.heap.size → ¬ (F b ∨ G b)) ∧ Kept (fun _ => False) w w'
theorem PairIn.next {w w1 w2 : World} {A B : Nat} {l m : Int} {n : Nat} {ts : List T} {F G : Nat → Prop} (hn : ts.length ≤ n) (hF : ∀ b, b < w.heap.size → ¬ (F b ∨ G b)) (hk : Kept (fun _ => False) w w1)
    (h : Goes w1 A B l m (ts.length + 1) F G w2) : PairIn w A B l m (n + 1) w2 := by
  obtain ⟨us, F', G', hP, hu, hs, hk2⟩ := h
  have := hk.size
  exact ⟨us, F', G', hP, by omega, fun b hb hf => hF b hb (hs b (by omega) hf), hk.trans hk2 hF⟩
/-- New, twice -/
theorem Pair.new {w w1 w2 : World} {l m : Int} {F : Nat → Prop} (hA : AlarmAt w1 w.heap.size l m [] F) (hF : F = fun b => b = w.heap.size) (hk1 : Kept (fun _ => False) w w1)
    (hB : RefAt w2 w1.heap.size l m (.slice none 0 0) []) (hk2 : Kept (fun _ => False) w1 w2) : PairIn w w.heap.size w1.heap.size l m 0 w2 := by
  subst hF
  have hA : AlarmIs w1 w.heap.size l m [] (fun b => b = w.heap.size) := ⟨[], hA, List.Perm.refl _⟩
  have hlt := hA.lt _ rfl
  have hg := (hA.keep hk2 (fun _ _ h => h)).good
  have hB : RefIs w2 w1.heap.size l m [] _ := ⟨_, [], hB, List.Perm.refl _, rfl, hg⟩
  refine ⟨[], _, _, ⟨hA.keep hk2 (fun _ _ h => h), hB, fun b hb hg => ?_⟩, Nat.le_refl _, fun b hb h => ?_, hk1.trans hk2 (fun _ _ h => h)⟩
  · subst hb
    rcases hg with h | h
    · omega
    · simp [Value.ownBlock] at h
  · rcases h with h | h | h
    · omega
    · omega
    · simp [Value.ownBlock] at h
end Go.Proofs.Ytmfjeeogeilgfaa.Al
