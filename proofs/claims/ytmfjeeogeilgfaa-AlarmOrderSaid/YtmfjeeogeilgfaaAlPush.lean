/- Push and Pop of the alarm's timers; heap.Push, heap.Remove, heap.Fix. -/
import Derived.Test.YtmfjeeogeilgfaaAlDown
import Derived.Maps.AppendAt
import Derived.Deep.AppendLies
namespace Go.Proofs.Ytmfjeeogeilgfaa.Al
open Go.RowKit
section
variable {w : World} {A sb cap : Nat} {l m : Int} {mv : Value} {X : Row}

theorem info_ptr : (Try.prog.info? 60).map (fun i => (i.zero, i.size, i.bytes)) = some (some (.pointer none), 1, 8) := by kernel_rfl

/-- Push, whatever the slice was -/
theorem push_any (tb : Nat) (t : T) (at0 : Nat) (v : Value) (n : Nat) (xs : List Value) (hn : n ≤ 1000000)
    (hA : Blk w A 42 #[.int .i64 l, .int .i64 m, mv, v]) (hv : ∃ a c, v = .slice a n c) (ht : Blk w tb 64 (tcells t at0)) (hown : w.ownsRow 0 60 1 v n xs) :
    Calls Try.prog 59 #[.pointer (some ⟨A, 3, none⟩), .iface 60 (.pointer (some ⟨tb, 0, none⟩))] w fun e w' => e = .returned (.tuple #[]) ∧
      ∃ g c, Blk w' A 42 #[.int .i64 l, .int .i64 m, mv, .slice (some ⟨g, 0, none⟩) (n + 1) c] ∧ Blk w' tb 64 (tcells t n) ∧
        w'.ownsRow 0 60 1 (.slice (some ⟨g, 0, none⟩) (n + 1) c) (n + 1) (xs ++ [.pointer (some ⟨tb, 0, none⟩)]) ∧
        (v.ownBlock = some g ∨ w.heap.size ≤ g) ∧ Kept (fun b => b = A ∨ b = tb ∨ v.ownBlock = some b) w w' := by
  obtain ⟨va, vc, rfl⟩ := hv
  obtain ⟨i0, hi, hz0, hz1, hz2⟩ := info_parts info_ptr
  have cA : w.cell? ⟨A, 3, none⟩ = some (.slice va n vc) := hA.cell' rfl
  have ct : w.cell? ⟨tb, 3, none⟩ = some (.int .i64 at0) := ht.cell' rfl
  have ft := ht.frozen 3
  have nAt : A ≠ tb := hA.ne_ ht (by decide)
  have nvt := own_blk_ne hown ht (by decide)
  have nvA := own_blk_ne hown hA (by decide)
  have hA1 := hA.far (p := ⟨tb, 3, none⟩) nAt (.int .i64 n)
  have ht1 := ht.set_ 3 (.int .i64 n)
  have hown1 := ownsRow_setCell_other hown (a := ⟨tb, 3, none⟩) nvt (.int .i64 n)
  have hkp : Kept (fun b => b = A ∨ b = tb ∨ (Value.slice va n vc).ownBlock = some b) w (w.setCell ⟨tb, 3, none⟩ (.int .i64 n)) := (Kept.refl _ _).setCell (fun _ => .inr (.inl rfl)) _
  have hta : ∀ (v : Value) (w : World), (Instr.typeAssert (.iface 60 v) 20 60 false).run Try.prog w = .ok v w := fun _ _ => by kernel_rfl
  have hone : ∀ u ∈ [Value.pointer (some ⟨tb, 0, none⟩)], u.oneCell' = true := by simp [Value.oneCell']
  have hnw0 : ∀ (j : Nat) (u : Value), [Value.pointer (some ⟨tb, 0, none⟩)][j]? = some u → ((w.setCell ⟨tb, 3, none⟩ (.int .i64 n)).alloc (.cells #[.pointer (some ⟨tb, 0, none⟩)] 60)).cell? ((⟨w.heap.size, 0, none⟩ : Addr).add j) = some u := by
    intro j u hj
    have h1 := cell_one_new (w.setCell ⟨tb, 3, none⟩ (.int .i64 n)) (.pointer (some ⟨tb, 0, none⟩)) 60 j u hj
    rwa [show (w.setCell ⟨tb, 3, none⟩ (.int .i64 n)).heap.size = w.heap.size from by simp [World.setCell]] at h1
  have hnw := Lib.hid hnw0
  clear hnw0
  have h63 : n + 1 ≤ maxLen := by simp only [maxLen]; omega
  have hby : (n + 1) * 8 ≤ 140737488355328 := by omega
  go_enter Try.func59, Try.ntmps59
  go_wp2_with (at_builtin; (refine wpList_append_own_at _ rfl (.tmp 17) (.tmp 19) 40 rfl 0 60 i0 (.pointer none) 1 8 Try.underlying40 hi hz0 hz1 hz2 rfl (by decide) _ _ _ rfl (hown1.alloc _) ⟨w.heap.size, 0, none⟩ 1 1 [.pointer (some ⟨tb, 0, none⟩)] rfl rfl hnw.out hone h63 hby (Nat.zero_le _) ?_); (intro v' w1 hown2 hgrow hnil hat); (obtain ⟨g, c, hv, _, hg⟩ := hown2.form (by omega)); (subst hv); (have hA2 := (hA1.alloc _).grown hgrow nvA); (have cA2 : w1.cell? ⟨A, 3, none⟩ = some (.slice va n vc) := hA2.cell' rfl); (have fA2 := hA2.frozen 3))
  go_end0
  have ht2 := (ht1.alloc _).grown hgrow nvt
  have nA2 := own_blk_ne hown2 hA2 (by decide)
  refine ⟨rfl, g, c, by simpa using hA2.set_ 3 (.slice (some ⟨g, 0, none⟩) (n + 1) c), by simpa [tcells] using ht2.far (p := ⟨A, 3, none⟩) nAt.symm _, ownsRow_setCell_other hown2 nA2 _, ?_, ((hkp.alloc _).grown hgrow (fun k hk _ => .inr (.inr hk))).setCell (fun _ => .inl rfl) _⟩
  rcases hat with e | e
  · exact .inl (e ▸ rfl)
  · right
    have : g = (w.setCell ⟨tb, 3, none⟩ (.int .i64 n)).heap.size + 1 := by simpa [Value.ownBlock] using e
    simp at this
    omega

theorem run_clear1 (w : World) (sb k c : Nat) (u : Value) (hc : w.cell? ⟨sb, k, none⟩ = some u) (hf : w.frozen? ⟨sb, k, none⟩ = false) (ty : TypeId) :
    (Builtin.clear_ #[40] ty #[.slice (some ⟨sb, k, none⟩) 1 c]).run Try.prog w = .ok (.tuple #[]) (w.setCell ⟨sb, k, none⟩ (.pointer none)) := by
  have hz : ∀ w : World, (zeroValue 60).run Try.prog w = .ok (.pointer none) w := fun w => by kernel_rfl
  simp [Builtin.clear_, run_underlying Try.underlying40, hz, Builtin.zeroCells, Value.cells, storeCells, go_sem, hc, hf]

theorem pop_heap {tb : Nat} {t : T} (h : HeapAt w A sb cap l m mv (X ++ [(tb, t)])) (hbig : X.length ≤ 1000000) :
    Calls Try.prog 58 #[.pointer (some ⟨A, 3, none⟩)] w fun e w' => e = .returned (.iface 60 (.pointer (some ⟨tb, 0, none⟩))) ∧ HeapAt w' A sb cap l m mv X ∧ Kept (fun b => b = A ∨ b = sb) w w' := by
  have hlen := h.len
  have hcap : ¬ cap = X.length := by simp at hlen; omega
  have hcap0 : ¬ cap = 0 := by simp at hlen; omega
  have hl : (X ++ [(tb, t)]).length = X.length + 1 := by simp
  have cA : w.cell? ⟨A, 3, none⟩ = some (.slice (some ⟨sb, 0, none⟩) (X.length + 1) cap) := hl ▸ h.sl
  have fA := h.top.frozen 3
  have cs := h.ptr (i := X.length) (x := (tb, t)) (by simp)
  have fs := h.fr X.length
  have nAs := h.A_sb
  have hclr := run_clear1 w sb X.length (cap - X.length) _ cs fs 0
  go_enter Try.func58, Try.ntmps58
  go_wp2
  go_ret
  have hx : ∀ (i : Nat) (x : Nat × T), X[i]? = some x → (X ++ [(tb, t)])[i]? = some x := fun i x hi => by rw [List.getElem?_append_left (lt_of_get hi)]; exact hi
  refine ⟨rfl, ⟨?_, ?_, by simp at hlen; omega, fun i x hi => ?_, ?_, h.capM⟩, ((Kept.refl _ _).setCell (fun _ => .inr rfl) _).setCell (fun _ => .inl rfl) _⟩
  · simpa using (h.top.far (p := ⟨sb, X.length, none⟩) nAs (.pointer none)).set_ 3 (.slice (some ⟨sb, 0, none⟩) X.length cap)
  · obtain ⟨cs, hb, hsz, hc⟩ := h.row
    refine ⟨_, (hb.set_ X.length (.pointer none)).far (p := ⟨A, 3, none⟩) nAs.symm _, by simpa using hsz, fun i x hi => ?_⟩
    have := lt_of_get hi
    rw [Array.getElem?_setIfInBounds_ne (by omega)]
    exact hc i x (hx i x hi)
  · have := hx i x hi
    exact ((h.tim i x this).far (p := ⟨sb, X.length, none⟩) (h.sb_ne this).symm _).far (p := ⟨A, 3, none⟩) (h.A_ne this).symm _
  · have := h.nod
    simp only [List.map_append, List.nodup_append] at this
    exact this.1

end
end Go.Proofs.Ytmfjeeogeilgfaa.Al
