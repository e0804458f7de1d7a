/- slices.SortFunc of Dots by site and number, on a row of the call's own. -/
import Derived.Test.YtaaeomapbigfgaaVeLay
import Derived.Test.YtaaeomapbigfgaaStSort
import Derived.Test.YtaaeomapbigfgaaVeOf
namespace Go.Proofs.Ytaaeomapbigfgaa
open Go.RowKit
namespace St
open Go.Sort (SWO)
def Dot.id (d : Dot) : ID := ⟨d.site, d.seq⟩
def Dot.cmp (a b : Dot) : Int := a.id.cmp b.id
def Dot.lt (a b : Dot) : Prop := a.id.lt b.id
instance (a b : Dot) : Decidable (a.lt b) := by unfold Dot.lt; infer_instance
def dotV (a : Dot) : Value := .agg #[.int .i64 a.site, .int .i64 a.seq]
theorem wcmp_any (a b : Dot) (w : World) : Calls Try.prog 36 #[dotV a, dotV b] w fun e w' => e = .returned (.int .i64 (a.cmp b)) ∧ Grew w w' := by
  obtain ⟨at_, as_⟩ := a
  obtain ⟨bt, bs⟩ := b
  show Calls _ _ #[.agg #[.int .i64 at_, .int .i64 as_], .agg #[.int .i64 bt, .int .i64 bs]] _ _
  unfold Dot.cmp Dot.id ID.cmp
  have b1 := Blk.alloc (Blk.new w 27 #[.int .i64 at_, .int .i64 as_]) (.cells #[.int .i64 bt, .int .i64 bs] 27)
  have b2 := Blk.new (w.alloc (.cells #[.int .i64 at_, .int .i64 as_] 27)) 27 #[.int .i64 bt, .int .i64 bs]
  have c1 : _ = some (Value.int .i64 at_) := b1.cell' (i := 0) rfl
  have c2 : _ = some (Value.int .i64 as_) := b1.cell' (i := 1) rfl
  have c3 : _ = some (Value.int .i64 bt) := b2.cell' (i := 0) rfl
  have c4 : _ = some (Value.int .i64 bs) := b2.cell' (i := 1) rfl
  have hg := Grew.alloc (Grew.alloc (Grew.refl w) (.cells #[.int .i64 at_, .int .i64 as_] 27)) (.cells #[.int .i64 bt, .int .i64 bs] 27)
  rw [World.size_alloc] at c3 c4
  clear b1 b2
  go_enter Try.func36, Try.ntmps36
  go_wp2_with fail
  obtain ⟨W, hW, hz⟩ : ∃ W, ((w.alloc (.cells #[.int .i64 at_, .int .i64 as_] 27)).alloc (.cells #[.int .i64 bt, .int .i64 bs] 27)) = W ∧ W.heap.size = w.heap.size + 2 := ⟨_, rfl, by simp⟩
  rw [hW] at c1 c2 c3 c4 hg ⊢
  clear hW
  have Z := Lib.hid hz
  clear hz
  go_region_held3 (fun w' => w'.cell? ⟨w.heap.size, 0, none⟩ = some (.int .i64 at_) ∧ w'.cell? ⟨w.heap.size, 1, none⟩ = some (.int .i64 as_) ∧ w'.cell? ⟨w.heap.size + 1, 0, none⟩ = some (.int .i64 bt) ∧ w'.cell? ⟨w.heap.size + 1, 1, none⟩ = some (.int .i64 bs)) (first | exact ⟨c1, c2, c3, c4⟩ | exact ⟨Lib.cell?_alloc_some _ c1, Lib.cell?_alloc_some _ c2, Lib.cell?_alloc_some _ c3, Lib.cell?_alloc_some _ c4⟩)
    (first
      | (go_simp; go_at_call 38; refine (ccmp_any _ _ _).mono ?_; rintro e w' ⟨rfl, rfl⟩)
      | (go_simp; go_at_call 37; refine (or2 W.heap.size (cmpI at_ bt) (cmpI as_ bs) (W.alloc (.cells #[.int .i64 (cmpI at_ bt), .int .i64 (cmpI as_ bs)] 3)).drew ((Blk.new W 3 #[.int .i64 (cmpI at_ bt), .int .i64 (cmpI as_ bs)]).cell' (i := 0) rfl) ((Blk.new W 3 #[.int .i64 (cmpI at_ bt), .int .i64 (cmpI as_ bs)]).cell' (i := 1) rfl)).mono ?_; rintro e w' ⟨rfl, rfl⟩))
  go_wp2
  go_ret
  exact ⟨rfl, (hg.alloc _).drew⟩

theorem dot_of (x y : Dot) : Go.Proofs.ltOf Dot.cmp x y = decide (x.lt y) := lt_of x.id y.id
theorem swo_dot : SWO (Go.Proofs.ltOf Dot.cmp) where
  irrefl x := swo_id.irrefl x.id
  trans x y z h1 h2 := swo_id.trans x.id y.id z.id h1 h2
  ntrans x y z h1 h2 := swo_id.ntrans x.id y.id z.id h1 h2
theorem part_dot (x y : Dot) (h1 : Go.Proofs.ltOf Dot.cmp x y = false) (h2 : Go.Proofs.ltOf Dot.cmp y x = false) : x = y := by
  have h := part_id x.id y.id h1 h2
  exact Dot.ext (congrArg ID.t h) (congrArg ID.s h)
/-- no later one is lower -/
def DSorted (l : List Dot) : Prop := l.Pairwise fun a b => ¬ b.lt a
theorem merge_dot (D : List Dot) : (D.mergeSort fun x y => !Go.Proofs.ltOf Dot.cmp y x).Perm D ∧ DSorted (D.mergeSort fun x y => !Go.Proofs.ltOf Dot.cmp y x) := by
  refine ⟨List.mergeSort_perm .., ?_⟩
  have := List.pairwise_mergeSort (le := fun x y => !Go.Proofs.ltOf Dot.cmp y x) (fun a b c h1 h2 => by
    simp only [Bool.not_eq_true'] at *
    exact swo_dot.ntrans c b a h2 h1) (fun a b => by
    simp only [Bool.or_eq_true, Bool.not_eq_true', dot_of, decide_eq_false_iff_not]
    by_cases h : b.lt a
    · exact .inr fun h' => ID.lt_irrefl _ (ID.lt_trans h h')
    · exact .inl h) D
  refine this.imp fun {a b} h => ?_
  simpa [dot_of] using h
theorem cmpLays_dot (g n : Nat) (w : World) : CmpLays Try.prog 36 #[] dotE.enc 2 Dot.cmp g 0 n w := fun _ _ _ _ x y => wcmp_any x y _
theorem aggDot : ∀ w, (isAgg (sortDot_ren.t 24)).run Try.prog w = .ok true w := fun _ => by kernel_rfl
theorem sizeDot : ∀ w, (Go.sizeOf (sortDot_ren.t 24)).run Try.prog w = .ok 2 w := fun _ => by kernel_rfl
theorem sort_dot {w : World} {t : TypeId} {g cap : Nat} {D : List Dot} (h : OwnAt dotE w t g cap D) (hb : D.length ≤ 1000000000) :
    Calls Try.prog 35 #[.slice (some ⟨g, 0, none⟩) D.length cap, .func (.func 36) #[] #[]] w fun e w' => e = .returned (.tuple #[]) ∧ ∃ D', D'.Perm D ∧ DSorted D' ∧ OwnAt dotE w' t g cap D' ∧ Kept (· = g) w w' := by
  have eg : ∀ args w, (callFunc 36 args).run Try.prog w = .ok (.enter 36 args) w := enters_of Try.func36 (by kernel_rfl) rfl
  have hcon := AnyQ.slices_SortFunc_total sortDot 2 aggDot sizeDot dotE.enc dotE.len dotE.one Dot.cmp swo_dot 36 #[] g 0 cap D.toArray w eg (cmpLays_dot g _ w) h.holdsK h.lt (by simp; omega) part_dot
  refine hcon.mono ?_
  rintro e w' ⟨rfl, n, os, rfl⟩
  obtain ⟨h1, h2⟩ := merge_dot D
  obtain ⟨h3, h4⟩ := h.sorted (D' := D.mergeSort fun x y => !Go.Proofs.ltOf Dot.cmp y x) (by simp) n os
  exact ⟨rfl, _, h1, h2, h3, h4⟩
end St
end Go.Proofs.Ytaaeomapbigfgaa

