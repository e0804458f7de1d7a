/- A Writer and the document's, side by side in memory. -/
import Derived.Test.YtdbnohlignpeaaaStLaw
import Derived.Test.YtdbnohlignpeaaaStRows
namespace Go.Proofs.Ytdbnohlignpeaaa.St
open Go.RowKit

/-- a Writer at A, which has laid s; the document's in the variable at X, which has laid t -/
structure Pair (w : World) (B A X : Nat) (s t : List UInt8 × Int) (F : Nat → Prop) (v : Value) : Prop where
  wr : WrIs w A s.1 s.2 F
  bx : Blk w X 56 #[v, .int .i64 t.2]
  sl : SlAt byteE w v t.1
  fx : ¬ F X
  fv : ∀ b, v.ownBlock = some b → ¬ F b ∧ b ≠ X
  lo : ∀ b, (F b ∨ b = X ∨ v.ownBlock = some b) → B ≤ b ∧ b < w.heap.size
def Foot (X : Nat) (F : Nat → Prop) (v : Value) (b : Nat) : Prop := F b ∨ b = X ∨ v.ownBlock = some b
section
variable {w w' w1 : World} {B A X : Nat} {s s' t t' : List UInt8 × Int} {F : Nat → Prop} {v v' : Value}
theorem Pair.keep {S : Nat → Prop} (h : Pair w B A X s t F v) (hk : Kept S w w') (hs : ∀ b, Foot X F v b → ¬ S b) : Pair w' B A X s t F v :=
  ⟨h.wr.keep hk (fun b hb => hs b (.inl hb)), hk.blk (hs X (.inr (.inl rfl))) h.bx, h.sl.keep hk (fun b hb _ => hs b (.inr (.inr hb))), h.fx, h.fv, fun b hb => ⟨(h.lo b hb).1, Nat.lt_of_lt_of_le (h.lo b hb).2 hk.size⟩⟩
theorem Pair.kept (h : Pair w B A X s t F v) (hk : Kept (fun _ => False) w w') : Pair w' B A X s t F v := h.keep hk (fun _ _ h => h)
theorem WrIs.inj {F F' : Nat → Prop} {bs : List UInt8} {e : Int} (h : WrIs w A bs e F) (h' : WrIs w A bs e F') : F = F' := by
  obtain ⟨v, h1, _, rfl⟩ := h
  obtain ⟨v', h1', _, rfl⟩ := h'
  have := h1.inj h1'
  cases this
  rfl
theorem WrGoes.cast {bs bs' : List UInt8} {e e' : Int} {F : Nat → Prop} (h : WrGoes w A bs e F w') (h1 : bs = bs') (h2 : e = e') : WrGoes w A bs' e' F w' := by
  subst h1 h2
  exact h
/-- the Writer has laid a thing -/
theorem Pair.lay (h : Pair w B A X s t F v) (hg : WrGoes w A s'.1 s'.2 F w') : ∃ F', Pair w' B A X s' t F' v ∧ Kept F w w' ∧ ∀ b, Foot X F' v b → b < w.heap.size → Foot X F v b := by
  obtain ⟨F', h1, h2, h3⟩ := hg
  have hX : X < w.heap.size := h.bx.lt
  refine ⟨F', ⟨h1, h3.blk h.fx h.bx, h.sl.keep h3 (fun b hb _ => (h.fv b hb).1), fun hx => h.fx (h2 X hX hx), fun b hb => ⟨fun hf => (h.fv b hb).1 (h2 b (h.lo b (.inr (.inr hb))).2 hf), (h.fv b hb).2⟩, ?_⟩, h3, ?_⟩
  · rintro b (hb | hb)
    · refine ⟨?_, h1.lt b hb⟩
      by_cases hlt : b < w.heap.size
      · exact (h.lo b (.inl (h2 b hlt hb))).1
      · have := (h.lo X (.inr (.inl rfl))).1
        omega
    · exact ⟨(h.lo b (.inr hb)).1, Nat.lt_of_lt_of_le (h.lo b (.inr hb)).2 h3.size⟩
  · rintro b (hb | hb) hlt
    · exact .inl (h2 b hlt hb)
    · exact .inr hb
/-- the document's Writer has laid a thing, and is stored -/
theorem Pair.laid (h : Pair w B A X s t F v) (hs : SlAt byteE w1 v' t'.1) (hk : Kept (fun _ => False) w w1) (hv : v' = v ∨ ∀ b, v'.ownBlock = some b → w.heap.size ≤ b ∧ b < w1.heap.size) :
    Pair ((w1.setCell ⟨X, 0, none⟩ v').setCell ⟨X, 1, none⟩ (.int .i64 t'.2)) B A X s t' F v' ∧ Kept (· = X) w ((w1.setCell ⟨X, 0, none⟩ v').setCell ⟨X, 1, none⟩ (.int .i64 t'.2)) ∧ ∀ b, Foot X F v' b → b < w.heap.size → Foot X F v b := by
  have h1 := h.kept hk
  have hX : X < w.heap.size := h.bx.lt
  have hk2 : Kept (· = X) w1 ((w1.setCell ⟨X, 0, none⟩ v').setCell ⟨X, 1, none⟩ (.int .i64 t'.2)) := ((Kept.refl (· = X) w1).setCell (fun _ => rfl) _).setCell (fun _ => rfl) _
  have hfv : ∀ b, v'.ownBlock = some b → ¬ F b ∧ b ≠ X ∧ B ≤ b ∧ b < w1.heap.size := by
    intro b hb
    rcases hv with rfl | hv
    · have := h1.lo b (.inr (.inr hb))
      exact ⟨(h.fv b hb).1, (h.fv b hb).2, this.1, this.2⟩
    · obtain ⟨h2, h3⟩ := hv b hb
      have := (h.lo X (.inr (.inl rfl))).1
      exact ⟨fun hf => by have := (h.lo b (.inl hf)).2; omega, by omega, by omega, h3⟩
  refine ⟨⟨h1.wr.keep hk2 (fun b hb e => h.fx (e ▸ hb)), ?_, hs.keep hk2 (fun b hb _ => (hfv b hb).2.1), h.fx, fun b hb => ⟨(hfv b hb).1, (hfv b hb).2.1⟩, ?_⟩, ?_, ?_⟩
  · have := (h1.bx.set_ 0 v').set_ 1 (.int .i64 t'.2)
    exact this
  · rintro b (hb | rfl | hb)
    · exact ⟨(h.lo b (.inl hb)).1, Nat.lt_of_lt_of_le (h1.lo b (.inl hb)).2 hk2.size⟩
    · exact ⟨(h.lo b (.inr (.inl rfl))).1, Nat.lt_of_lt_of_le (h1.lo b (.inr (.inl rfl))).2 hk2.size⟩
    · exact ⟨(hfv b hb).2.2.1, Nat.lt_of_lt_of_le (hfv b hb).2.2.2 hk2.size⟩
  · exact (hk.mono (fun _ _ h => h.elim)).trans hk2 (fun _ _ h => h)
  · rintro b (hb | rfl | hb) hlt
    · exact .inl hb
    · exact .inr (.inl rfl)
    · rcases hv with rfl | hv
      · exact .inr (.inr hb)
      · have := (hv b hb).1
        omega
theorem Pair.self (_ : Pair w B A X s t F v) : Kept (fun _ => False) w w.drew := (Kept.refl _ _).drew
end
theorem bytes_same {w : World} {u v : Value} {L : List UInt8} (hu : SlAt byteE w u L) (hv : SlAt byteE w v L) (hb : L.length ≤ 1000000000) :
    Calls Try.prog 29 #[u, v] w fun e w' => e = .returned (.bool true) ∧ ∃ q, w' = w.drewN q := by
  have h := bytes_eq hu hv hb
  rw [decide_eq_true rfl] at h
  exact h
/-- what is laid of the first n things -/
def stN (L : List Item) (n : Nat) : List UInt8 × Int := (L.take n).foldl layI ([], 0)
theorem stN_zero (L : List Item) : stN L 0 = ([], 0) := rfl
theorem stN_succ {L : List Item} {n : Nat} {x : Item} (h : L[n]? = some x) : stN L (n + 1) = layI (stN L n) x := by
  unfold stN
  rw [List.take_add_one, h]
  simp
theorem stN_ge {L : List Item} {n : Nat} (h : L.length ≤ n) : stN L (n + 1) = stN L n := by
  unfold stN
  rw [List.take_of_length_le h, List.take_of_length_le (by omega)]
theorem layI_len (s : List UInt8 × Int) (x : Item) (hn : I64 x.n) (hs : x.s.size ≤ 1000000) : (layI s x).1.length ≤ s.1.length + 9 + x.s.size := by
  unfold layI
  split
  · exact layT_len s x.s (by omega)
  · have := layN_len s x.n hn.2
    omega
theorem stN_len {L : List Item} (hI : ∀ x ∈ L, I64 x.n) (hs : ∀ x ∈ L, x.s.size ≤ 50000) : ∀ n, n ≤ L.length → (stN L n).1.length ≤ n * 9 + total (L.take n)
  | 0, _ => by simp [stN]
  | n + 1, h => by
    obtain ⟨x, hx⟩ := get_of_lt (show n < L.length by omega)
    have ih := stN_len hI hs n (by omega)
    have hm := List.mem_of_getElem? hx
    have := layI_len (stN L n) x (hI x hm) (by have := hs x hm; omega)
    rw [stN_succ hx, total_take hx]
    omega
theorem total_le : ∀ (L : List Item) (n : Nat), total (L.take n) ≤ total L
  | [], n => by simp
  | x :: r, 0 => by simp [total]
  | x :: r, n + 1 => by
    have := total_le r n
    unfold total at *
    simp only [List.take_succ_cons, List.map_cons, List.sum_cons]
    omega
theorem stN_small {L : List Item} (hI : ∀ x ∈ L, I64 x.n) {m : Nat} (h : Small L m) (n : Nat) : (stN L n).1.length ≤ 60000 := by
  obtain ⟨h1, h2, h3, h4⟩ := h
  by_cases hn : n ≤ L.length
  · have := stN_len hI h3 n hn
    have := total_le L n
    omega
  · have := stN_len hI h3 L.length (Nat.le_refl _)
    have h5 := total_le L L.length
    have : stN L n = stN L L.length := by unfold stN; rw [List.take_of_length_le (by omega), List.take_of_length_le (Nat.le_refl _)]
    rw [this]
    omega
end Go.Proofs.Ytdbnohlignpeaaa.St
