/- Arrays in blocks of their own: loaded whole, stored whole. They speak of no program of their own. -/
import Derived.Test.YtaaeomapbigfgaaStMem
import Derived.Laws.Rows
import Derived.Laws.Tables
import Derived.Deep.WholeRow
namespace Go.Proofs.Ytaaeomapbigfgaa
open Go.RowKit
section
variable {P : Program} {w w' : World} {g b : Nat} {t t' : TypeId} {cs old : Array Value}
theorem Blk.loads (h : Blk w g t cs) {n : Nat} (hn : cs.size = n) : (loadCellsFrom ⟨g, 0, none⟩ 0 n #[]).run P w = .ok cs w := by
  subst hn
  have := run_loadCells_list (P := P) w ⟨g, 0, none⟩ cs.toList (fun j v hv => by
    have hadd : (⟨g, 0, none⟩ : Addr).add j = ⟨g, j, none⟩ := by unfold Addr.add; split <;> simp_all
    rw [hadd, h.cell]
    simpa using hv)
  simpa [loadCells] using this
theorem Blk.stores (h : Blk w g t old) (hs : old.size = cs.size) (h1 : cs.all (·.oneCell') = true) : (storeCells ⟨g, 0, none⟩ cs.toList 0).run P w = .ok () (w.setRow g cs) := by
  have := run_storeCells_from (P := P) g t cs.toList 0 old w h (by simp; omega) (fun v hv => (Array.all_eq_true_iff_forall_mem.1 h1) v (by simpa using hv))
  simpa [hs] using this
theorem Blk.row (h : Blk w g t old) (cs : Array Value) : Blk (w.setRow g cs) g t cs := setRow_heap w g old cs t (0, 0) h
theorem Blk.row_far (h : Blk w b t old) (hne : b ≠ g) (cs : Array Value) : Blk (w.setRow g cs) b t old := (setRow_other w g b cs hne).trans h
theorem Kept.setRow {S : Nat → Prop} (h : Kept S w w') (hg : g < w.heap.size → S g) (cs : Array Value) : Kept S w (w'.setRow g cs) :=
  ⟨h.os, h.tape, h.output, by rw [setRow_size]; exact h.size, fun k hk hs => by rw [setRow_other _ _ _ _ (fun e => by subst e; exact hs (hg hk))]; exact h.block k hk hs⟩
theorem Grew.setRow (h : Grew w w') (hg : w.heap.size ≤ g) (cs : Array Value) : Grew w (w'.setRow g cs) := by
  obtain ⟨q, os, rfl⟩ := h
  have hs : ((Sort.grow (w.drewN q) os).setRow g cs).heap.size = w.heap.size + os.size := by rw [setRow_size]; simp [Sort.grow, World.drewN]
  have hh : ((Sort.grow (w.drewN q) os).setRow g cs).heap = w.heap ++ ((Sort.grow (w.drewN q) os).setRow g cs).heap.extract w.heap.size ((Sort.grow (w.drewN q) os).setRow g cs).heap.size := by
    apply Array.ext
    · simp [hs]
    · intro i h1 h2
      rw [Array.getElem_append]
      split
      · rename_i hi
        simp only [World.setRow, Sort.grow, World.drewN, Array.getElem_modify]
        rw [if_neg (by omega), Array.getElem_append_left hi]
      · rename_i hi
        rw [Array.getElem_extract]
        congr 1
        omega
  obtain ⟨os', hh⟩ : ∃ os', ((Sort.grow (w.drewN q) os).setRow g cs).heap = w.heap ++ os' := ⟨_, hh⟩
  refine ⟨q, os', ?_⟩
  have e : (Sort.grow (w.drewN q) os).setRow g cs = { w.drewN q with heap := ((Sort.grow (w.drewN q) os).setRow g cs).heap } := rfl
  rw [e, hh]
  rfl
theorem Kept.cell (hk : Kept (fun _ => False) w w') {a : Addr} {v : Value} (h : w.cell? a = some v) : w'.cell? a = some v := by
  have hlt := World.block_lt_of_cell? w _ h
  have hb := hk.block a.block hlt (fun h => h)
  unfold World.cell? at h ⊢
  rw [hb]
  exact h
theorem owns_lower {base base' n size : Nat} {e : TypeId} {v : Value} {xs : List Value} (h : w.ownsRow base e size v n xs) (hb : base' ≤ base) : w.ownsRow base' e size v n xs := by
  refine ⟨h.1, ?_⟩
  rcases h.2 with h2 | ⟨g, c, cur, e2, h1, h3⟩
  · exact .inl h2
  · exact .inr ⟨g, c, cur, e2, Nat.le_trans hb h1, h3⟩
theorem Blk.result {fn : Func} {p : Tmp} {ty : TypeId} {d : TypeDesc} (hr : fn.results = #[.cell p ty]) (tmps : Array Value) (h : Blk w g t cs) (hp : tmps.getD p undef = .pointer (some ⟨g, 0, none⟩))
    (hu : P.underlying ty = some d) (hd : (match d with | .struct _ | .array _ _ => true | _ => false) = true) (hi : (P.info? ty).map (·.size) = some cs.size) : (results fn tmps).run P w = .ok (.agg cs) w :=
  results_cell_row hr tmps w g t cs (0, 0) d hp h hu hd hi
end
end Go.Proofs.Ytaaeomapbigfgaa

