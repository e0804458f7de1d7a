/- StampForm: all the identifiers of a row of runs, gathered by the iterator. -/
import Derived.Test.YtdbnohlignpeaaaStForm3
import Derived.Test.YtdbnohlignpeaaaStEachs2
namespace Go.Proofs.Ytdbnohlignpeaaa.St
open Go.RowKit
namespace stampForm
theorem en4 : ∀ args w, Sem.run Try.prog (callFunc 46 args) w = .ok (.enter 46 args) w := Go.Proofs.enters_of Try.func46 (by kernel_rfl) rfl
/-- what stands when i have been gathered -/
def Gath (base Bl Bq Ba : Nat) (vl vq : Value) (G : List Run) (i : Nat) (F : Nat → Prop) (w : World) : Prop :=
  Blk w Bl 29 #[vl] ∧ SlAt runE w vl G ∧ Blk w Bq 28 #[vq] ∧ base ≤ w.heap.size ∧ ∃ va, F = (fun b => b = Ba ∨ va.ownBlock = some b) ∧ Blk w Ba 28 #[va] ∧ w.ownsRow base 23 2 va i (idE.flat ((idsOf G).take i))
theorem it4_any {w : World} {Bl Bq Ba n0 lc : Nat} {vl : Value} {la : Option Addr} {G : List Run} (hbl : Blk w Bl 29 #[vl]) (hlr : SlAt runE w vl G) (hG : ∀ r ∈ G, r.Ok) (hb : G.length ≤ 1000000) (hq : Blk w Bq 28 #[.slice la n0 lc]) (ha : Blk w Ba 28 #[.slice none 0 0])
    (hlen : (idsOf G).length ≤ n0) (hn : n0 ≤ 120) (n1 : Ba ≠ Bq) (n2 : Ba ≠ Bl) (hvl : ∀ b, vl.ownBlock = some b → b < w.heap.size ∧ b ≠ Ba) :
    Calls Try.prog 73 #[.func (.func 46) #[] #[.pointer (some ⟨Ba, 0, none⟩), .pointer (some ⟨Bq, 0, none⟩)], .pointer (some ⟨Bl, 0, none⟩)] w fun e w' =>
      e = .returned (.tuple #[]) ∧ Kept (· = Ba) w w' ∧ ∃ va, Blk w' Ba 28 #[va] ∧ w'.ownsRow w.heap.size 23 2 va (idsOf G).length (idE.flat (idsOf G)) := by
  refine (each1F_any (S := fun b => b = Ba ∨ (Value.slice none 0 0).ownBlock = some b) (v := vl) hG hb 46 _ (fun i F w' => Gath w.heap.size Bl Bq Ba vl (.slice la n0 lc) G i F w') (fun _ => False)
    (fun i F w' hi => ⟨hi.1.cell' rfl, hi.2.1⟩) (fun i F w' hi b hbF => ?_) (fun i F w1 w2 hi hk => ?_) (fun i F x w1 hx hi => ?_) en4 ⟨hbl, hlr, hq, Nat.le_refl _, _, rfl, ha, World.ownsRow_nil _ _ _ _⟩).mono ?_
  · obtain ⟨_, _, _, _, va, rfl, h1, h2⟩ := hi
    rcases hbF with rfl | hbF
    · exact h1.lt
    · exact (h2.lt b hbF).2
  · obtain ⟨h1, h2, h3, h4, va, rfl, h5, h6⟩ := hi
    exact ⟨hk.blk (fun h => h) h1, h2.kept hk, hk.blk (fun h => h) h3, Nat.le_trans h4 hk.size, va, rfl, hk.blk (fun h => h) h5, owns_keep h6 hk (fun _ _ h => h)⟩
  · obtain ⟨h1, h2, h3, h4, va, rfl, h5, h6⟩ := hi
    have hil := (List.getElem?_eq_some_iff.1 hx).1
    have hAl : ((idsOf G).take i).length = i := by rw [List.length_take]; omega
    have hab := ha.lt
    have hqb := hq.lt
    have hlb := hbl.lt
    refine (f4_any (base := w.heap.size) (A := (idsOf G).take i) x h5 (by rw [hAl]; exact h6) h3 (by omega) hn h4 n1 (fun b hb => by have := (h6.lt b hb).1; omega)).mono ?_
    rintro e w2 ⟨rfl, va2, g1, g2, g3, g4⟩
    refine ⟨true, fun b => b = Ba ∨ va2.ownBlock = some b, rfl, g4, fun b hb => ?_, fun _ => ?_, fun h => by cases h⟩
    · rcases hb with hb | hb
      · exact .inl (.inl hb)
      · rcases g3 b hb with h | h
        · exact .inl (.inr h)
        · exact .inr h
    · have hsz := g4.size
      refine ⟨g4.blk (fun h => ?_) h1, h2.keep g4 (fun b hb _ h => ?_), g4.blk (fun h => ?_) h3, by omega, va2, rfl, g1, ?_⟩
      · rcases h with h | h
        · exact n2 h.symm
        · have := (h6.lt _ h).1; omega
      · rcases h with h | h
        · exact (hvl b hb).2 h
        · have := (h6.lt _ h).1; have := (hvl b hb).1; omega
      · rcases h with h | h
        · exact n1 h.symm
        · have := (h6.lt _ h).1; omega
      · rw [List.take_add_one, hx]
        rw [hAl] at g2
        exact g2
  · rintro e w2 ⟨rfl, hk, ⟨F, hI⟩ | hZ⟩
    · obtain ⟨_, _, _, _, va, rfl, h5, h6⟩ := hI
      rw [List.take_length] at h6
      exact ⟨rfl, hk.mono (fun b _ h => by rcases h with h | h; exact h; cases h), va, h5, h6⟩
    · exact hZ.elim
end stampForm
end Go.Proofs.Ytdbnohlignpeaaa.St
