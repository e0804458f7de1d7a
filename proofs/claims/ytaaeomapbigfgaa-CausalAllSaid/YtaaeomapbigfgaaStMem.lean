/- Words for slices of structs in memory, and for maps with any keys. They speak of no program of their own. -/
import Derived.Test.YtaaeomapbigfgaaBase
import Derived.Sort.Grow
import Derived.Laws.StructEq
namespace Go.Proofs.Ytaaeomapbigfgaa
open Go.RowKit

/-! ### growth -/
theorem Kept.of_grow {w : World} (q : Nat) (os : Array Obj) : Kept (fun _ => False) w (Sort.grow (w.drewN q) os) :=
  ⟨rfl, rfl, rfl, by simp [Sort.grow, World.drewN], fun k hk _ => by simp [Sort.grow, World.drewN, Array.getElem?_append, hk]⟩
theorem grow_alloc (w : World) (o : Obj) : w.alloc o = Sort.grow w #[o] := by
  show ({ w with heap := w.heap.push o } : World) = { w with heap := w.heap ++ #[o] }
  rw [Array.push_eq_append]
/-- draws, and blocks behind -/
def Grew (w w' : World) : Prop := ∃ q os, w' = Sort.grow (w.drewN q) os
section
variable {w w' w'' : World}
theorem Grew.refl (w : World) : Grew w w := ⟨0, #[], by rw [Sort.grow_empty]; rfl⟩
theorem Grew.kept (h : Grew w w') : Kept (fun _ => False) w w' := by obtain ⟨q, os, rfl⟩ := h; exact Kept.of_grow q os
theorem Grew.box (h : Grew w w') {g : Nat} {t : TypeId} {cs : Array Value} (hb : Blk w g t cs) : Blk w' g t cs := h.kept.blk (fun h => h) hb
theorem Grew.size (h : Grew w w') : w.heap.size ≤ w'.heap.size := h.kept.size
theorem Grew.drewN (h : Grew w w') (n : Nat) : Grew w (w'.drewN n) := by
  obtain ⟨q, os, rfl⟩ := h
  exact ⟨q + n, os, by simp [Sort.grow, World.drewN, Nat.add_assoc]⟩
theorem Grew.drew (h : Grew w w') : Grew w w'.drew := h.drewN 1
theorem Grew.alloc (h : Grew w w') (o : Obj) : Grew w (w'.alloc o) := by
  obtain ⟨q, os, rfl⟩ := h
  exact ⟨q, os ++ #[o], by rw [grow_alloc, Sort.grow_grow]⟩
theorem Grew.setCell (h : Grew w w') {p : Addr} (hp : w.heap.size ≤ p.block) (u : Value) : Grew w (w'.setCell p u) := by
  obtain ⟨q, os, rfl⟩ := h
  have hh : ((Sort.grow (w.drewN q) os).setCell p u).heap = w.heap ++ ((Sort.grow (w.drewN q) os).setCell p u).heap.extract w.heap.size ((Sort.grow (w.drewN q) os).setCell p u).heap.size := by
    have hs : ((Sort.grow (w.drewN q) os).setCell p u).heap.size = w.heap.size + os.size := by simp [World.setCell, Sort.grow, World.drewN]
    apply Array.ext
    · simp [hs]
    · intro i h1 h2
      rw [Array.getElem_append]
      split
      · rename_i hi
        simp only [World.setCell, Sort.grow, World.drewN, Array.getElem_modify]
        rw [if_neg (by omega), Array.getElem_append_left hi]
      · rename_i hi
        rw [Array.getElem_extract]
        congr 1
        omega
  obtain ⟨os', hh⟩ : ∃ os', ((Sort.grow (w.drewN q) os).setCell p u).heap = w.heap ++ os' := ⟨_, hh⟩
  refine ⟨q, os', ?_⟩
  have e : (Sort.grow (w.drewN q) os).setCell p u = { w.drewN q with heap := ((Sort.grow (w.drewN q) os).setCell p u).heap } := rfl
  rw [e, hh]
  rfl
theorem Grew.trans (h : Grew w w') (k : Grew w' w'') : Grew w w'' := by
  obtain ⟨q, os, rfl⟩ := k
  obtain ⟨q2, os2, h2⟩ := h.drewN q
  exact ⟨q2, os2 ++ os, by rw [h2, Sort.grow_grow]⟩
end
end Go.Proofs.Ytaaeomapbigfgaa

