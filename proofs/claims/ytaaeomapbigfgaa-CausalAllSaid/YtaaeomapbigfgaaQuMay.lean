/- (*causal.Queue).may. -/
import Derived.Test.YtaaeomapbigfgaaQuOp
import Derived.Test.YtaaeomapbigfgaaVeWith
import Derived.Laws.StructEq
import Derived.Shelf.SlSortCmp.QuietGrown
namespace Go.Proofs.Ytaaeomapbigfgaa
open Go.RowKit Go.Proofs.Ytaaeomapbigfgaa.St
open Go.Sort (grow)
theorem Grew.grown {w : World} (n : Nat) (os : Array Obj) : Grew w (grow (w.drewN n) os) := ⟨n, os, rfl⟩
/-- a contract at every world that has grown, as the drawn regions ask it -/
theorem grown_call {f : FuncId} {args : Array Value} {w : World} {v : Value} (h : ∀ w', Grew w w' → Calls Try.prog f args w' fun e w'' => e = .returned v ∧ Grew w' w'') (n : Nat) (os : Array Obj) :
    Calls Try.prog f args (grow (w.drewN n) os) fun e w'' => e = .returned v ∧ ∃ p : GrownBy, w'' = grow (w.drewN p.n) p.os :=
  Calls.grown_of ((h _ (Grew.grown n os)).mono fun _ _ ⟨he, q, os', hq⟩ => ⟨he, q, os', hq⟩)
set_option maxRecDepth 100000 in
set_option maxHeartbeats 4000000 in
theorem may_grew {w : World} {g : Nat} {h0 v wv ov : Value} {V D : List Dot} {x : OpV} (hq : Blk w g 67 #[h0, v, wv, ov]) (hv : SlAt dotE w v V) (hD : SlAt dotE w x.deps.v D) (hVl : V.length ≤ 1000000000) (hDl : D.length ≤ 1000000000) :
    Calls Try.prog 29 #[.pointer (some ⟨g, 0, none⟩), .agg (opA x)] w fun e w' => e = .returned (.bool (decide (Ent.can V x.dot D))) ∧ Grew w w' := by
  have hB := Blk.new w 34 (opA x)
  have k0 : Grew w (w.alloc (.cells (opA x) 34)) := (Grew.refl _).alloc _
  have hgt := hq.lt
  obtain ⟨W, hW, hz⟩ : ∃ W, w.alloc (.cells (opA x) 34) = W ∧ W.heap.size = w.heap.size + 1 := ⟨_, rfl, by simp⟩
  rw [hW] at hB k0
  have b0 := cell_grown (w := W) (by show w.heap.size < _; omega) (show W.cell? ⟨w.heap.size, 0, none⟩ = some (.int .i64 x.dot.site) from hB.cell' (i := 0) rfl)
  have b1 := cell_grown (w := W) (by show w.heap.size < _; omega) (show W.cell? ⟨w.heap.size, 1, none⟩ = some (.int .i64 x.dot.seq) from hB.cell' (i := 1) rfl)
  have b2 := cell_grown (w := W) (by show w.heap.size < _; omega) (show W.cell? ⟨w.heap.size, 2, none⟩ = some x.deps.v from hB.cell' (i := 2) rfl)
  have q1 := cell_grown (w := W) (by show g < _; omega) (show W.cell? ⟨g, 1, none⟩ = some v from (k0.kept.blk (fun h => h) hq).cell' (i := 1) rfl)
  have HG := Lib.hid (fun (w' : World) (hk : Grew W w') => get_grew (hv.kept (k0.trans hk).kept) hVl x.dot.site)
  have HC := Lib.hid (fun (w' : World) (hk : Grew W w') => covers_grew (hv.kept (k0.trans hk).kept) (hD.kept (k0.trans hk).kept) hVl hDl)
  have gbd : 0 ≤ getV V x.dot.site ∧ getV V x.dot.site ≤ 2147483647 := by
    unfold getV
    by_cases h : isSite x.dot.site
    · rw [if_pos h]; exact says_bd V _
    · rw [if_neg h]; exact ⟨by decide, by decide⟩
  have hw : IntKind.i64.wrap (getV V x.dot.site + 1) = getV V x.dot.site + 1 := IntWalk.i64_in _ (by omega)
  have K0 := Lib.hid k0
  have hmix : Try.prog.follows .mixedOrders = true := by kernel_rfl
  have HW := Lib.hid hW
  by_cases hs : x.dot.seq = getV V x.dot.site + 1
  · have hsb : (x.dot.seq == getV V x.dot.site + 1) = true := beq_iff_eq.2 hs
    have ANS : Hid (decide (coversV V D) = decide (Ent.can V x.dot D)) := Lib.hid (decide_eq_decide.2 ⟨fun h => ⟨hs, h⟩, fun h => h.2⟩)
    generalize decide (coversV V D) = cb at *
    generalize getV V x.dot.site = gv at *
    clear hq hv hD hB k0 gbd hs hz hgt hW
    go_enter Try.func29, Try.ntmps29
    go_wp2_with fail
    rw [HW.out]
    go_quiet_grown (first
      | (go_at_call 46; exact grown_call HC.out _ _)
      | (go_at_call 43; exact grown_call HG.out _ _))
    go_wp2_with fail
    go_ret
    exact ⟨by rw [← ANS.out]; rfl, K0.out.trans (Grew.grown _ _)⟩
  · have hsb : (x.dot.seq == getV V x.dot.site + 1) = false := beq_eq_false_iff_ne.2 hs
    have ANS : Hid (false = decide (Ent.can V x.dot D)) := Lib.hid (decide_eq_false fun h => hs h.1).symm
    generalize getV V x.dot.site = gv at *
    clear hq hv hD hB k0 gbd hs hz hgt hW
    go_enter Try.func29, Try.ntmps29
    go_wp2_with fail
    rw [HW.out]
    go_quiet_grown (first
      | (go_at_call 43; exact grown_call HG.out _ _))
    go_wp2_with fail
    go_ret
    exact ⟨by rw [← ANS.out]; rfl, K0.out.trans (Grew.grown _ _)⟩
end Go.Proofs.Ytaaeomapbigfgaa

