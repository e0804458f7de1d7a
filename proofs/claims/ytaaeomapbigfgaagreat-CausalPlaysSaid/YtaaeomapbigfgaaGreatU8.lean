/- vector.Has: the growing form. slices.IndexFunc and ContainsFunc by the Dot of an operation. causal.twin. A scope with labels. It speaks of no program of its own. -/
import Derived.Test.YtaaeomapbigfgaaGreatU5
import Derived.Test.YtaaeomapbigfgaaGreatU7
import Derived.Laws.StructEq
import Derived.Test.YtaaeomapbigfgaaGreatU6
import Derived.WalkMore
import Derived.ScopeJumps
import Derived.Test.YtaaeomapbigfgaaGreatU1
namespace Go.Proofs.YtaaeomapbigfgaaGreat
open Go.RowKit Go.Proofs.YtaaeomapbigfgaaGreat.St
open Go.Sort (grow)
set_option maxRecDepth 100000 in
set_option maxHeartbeats 4000000 in
theorem hasV_grew {w : World} {v : Value} {L : List Dot} (h : SlAt dotE w v L) (hb : L.length ≤ 1000000000) (d : Dot) : Calls Tryz.prog 38 #[v, .agg #[.int .i64 d.site, .int .i64 d.seq]] w fun e w' => e = .returned (.bool (decide (hasV L d))) ∧ Grew w w' := by
  have hmix : Tryz.prog.follows .mixedOrders = true := by kernel_rfl
  have hB := Blk.new w 28 #[.int .i64 d.site, .int .i64 d.seq]
  have k0 : Grew w (w.alloc (.cells #[.int .i64 d.site, .int .i64 d.seq] 28)) := (Grew.refl _).alloc _
  obtain ⟨W, hW, hz⟩ : ∃ W, w.alloc (.cells #[.int .i64 d.site, .int .i64 d.seq] 28) = W ∧ W.heap.size = w.heap.size + 1 := ⟨_, rfl, by simp⟩
  rw [hW] at hB k0
  have b0 := cell_grown (w := W) (by show w.heap.size < _; omega) (show W.cell? ⟨w.heap.size, 0, none⟩ = some (.int .i64 d.site) from hB.cell' (i := 0) rfl)
  have b1 := cell_grown (w := W) (by show w.heap.size < _; omega) (show W.cell? ⟨w.heap.size, 1, none⟩ = some (.int .i64 d.seq) from hB.cell' (i := 1) rfl)
  have HG := Lib.hid (fun (w' : World) (hk : Grew W w') => get_grew (h.kept (k0.trans hk).kept) hb d.site)
  have K0 := Lib.hid k0
  have HW := Lib.hid hW
  unfold hasV
  clear hB h k0 hz hW
  by_cases h1 : 1 ≤ d.seq
  · have hd1 : decide (1 ≤ d.seq) = true := decide_eq_true h1
    have e2 : decide (1 ≤ d.seq ∧ d.seq ≤ getV L d.site) = decide (d.seq ≤ getV L d.site) := decide_eq_decide.2 ⟨fun h => h.2, fun h => ⟨h1, h⟩⟩
    rw [e2]
    generalize getV L d.site = gv at *
    go_enter Tryz.func38, Tryz.ntmps38
    go_wp2_with fail
    rw [HW.out]
    go_quiet_grown (first
      | (go_at_call 64; exact grown_call HG.out _ _))
    go_wp2_with fail
    go_ret
    exact ⟨rfl, K0.out.trans (Grew.grown _ _)⟩
  · have hd1 : decide (1 ≤ d.seq) = false := decide_eq_false h1
    have e2 : decide (1 ≤ d.seq ∧ d.seq ≤ getV L d.site) = false := decide_eq_false fun h => h1 h.1
    rw [e2]
    go_enter Tryz.func38, Tryz.ntmps38
    go_wp2_with fail
    rw [HW.out]
    go_quiet_grown (first
      | (go_at_call 64; exact grown_call HG.out _ _))
    go_wp2_with fail
    go_ret
    exact ⟨rfl, K0.out.trans (Grew.grown _ _)⟩
end Go.Proofs.YtaaeomapbigfgaaGreat
namespace Go.Proofs.YtaaeomapbigfgaaGreat
open Go.RowKit Go.Proofs.YtaaeomapbigfgaaGreat.St
set_option maxRecDepth 100000 in
set_option maxHeartbeats 4000000 in
theorem off1_any {w : World} {b : Nat} {x : OpV} (hx0 : w.cell? ⟨b, 0, none⟩ = some (.int .i64 x.dot.site)) (hx1 : w.cell? ⟨b, 1, none⟩ = some (.int .i64 x.dot.seq)) (_hb : b < w.heap.size) (y : OpV) :
    Calls Tryz.prog 40 #[.agg (opA y), .pointer (some ⟨b, 0, none⟩)] w fun e w' => e = .returned (.bool (decide (y.dot = x.dot))) ∧ Grew w w' := by
  have hB := Blk.new w 42 (opA y)
  have k0 : Grew w (w.alloc (.cells (opA y) 42)) := (Grew.refl _).alloc _
  have b0 : (w.alloc (.cells (opA y) 42)).cell? ⟨w.heap.size, 0, none⟩ = some (.int .i64 y.dot.site) := hB.cell' (i := 0) rfl
  have b1 : (w.alloc (.cells (opA y) 42)).cell? ⟨w.heap.size, 1, none⟩ = some (.int .i64 y.dot.seq) := hB.cell' (i := 1) rfl
  have a0 := k0.kept.cell hx0
  have a1 := k0.kept.cell hx1
  have heq : (y.dot.site == x.dot.site && y.dot.seq == x.dot.seq) = decide (y.dot = x.dot) := by
    rw [Bool.eq_iff_iff, decide_eq_true_iff, Dot.ext_iff]
    simp
  rw [← heq]
  go_enter Tryz.func40, Tryz.ntmps40
  by_cases h1 : y.dot.site = x.dot.site
  · by_cases h2 : y.dot.seq = x.dot.seq
    · have e1 : (y.dot.site == x.dot.site) = true := beq_iff_eq.2 h1
      have e2 : (y.dot.seq == x.dot.seq) = true := beq_iff_eq.2 h2
      clear h1 h2 hB
      go_wp2_with fail
      go_ret
      exact ⟨by rw [e1, e2]; rfl, k0⟩
    · have e1 : (y.dot.site == x.dot.site) = true := beq_iff_eq.2 h1
      have e2 : (y.dot.seq == x.dot.seq) = false := beq_eq_false_iff_ne.2 h2
      clear h1 h2 hB
      go_wp2_with fail
      go_ret
      exact ⟨by rw [e1, e2]; rfl, k0⟩
  · have e1 : (y.dot.site == x.dot.site) = false := beq_eq_false_iff_ne.2 h1
    clear h1 hB
    go_wp2_with fail
    go_ret
    exact ⟨by rw [e1]; rfl, k0⟩
theorem enOff : ∀ args w, Sem.run Tryz.prog (callFunc 40 args) w = .ok (.enter 40 args) w := Go.Proofs.enters_of Tryz.func40 (by kernel_rfl) rfl
set_option maxRecDepth 100000 in
set_option maxHeartbeats 8000000 in
theorem index_any {w : World} {b : Nat} {x : OpV} {v : Value} {W : List Ent} (hx0 : w.cell? ⟨b, 0, none⟩ = some (.int .i64 x.dot.site)) (hx1 : w.cell? ⟨b, 1, none⟩ = some (.int .i64 x.dot.seq)) (hb : b < w.heap.size) (h : SlAt entE w v W) (hl : W.length ≤ 1000000000) :
    Calls Tryz.prog 65 #[v, .func (.func 40) #[] #[.pointer (some ⟨b, 0, none⟩)]] w fun r w' => ∃ k : Int, r = .returned (.int .i64 k) ∧ ((k = -1 ∧ ∀ e ∈ W, e.v.dot ≠ x.dot) ∨ (0 ≤ k ∧ ∃ e ∈ W, e.v.dot = x.dot)) ∧ Grew w w' := by
  obtain ⟨a, c, rfl, _, _⟩ := h.sl
  have HS := Lib.hid h
  have X0 := Lib.hid hx0
  have X1 := Lib.hid hx1
  have hen := enOff
  clear h hx0 hx1
  go_enter Tryz.func65, Tryz.ntmps65
  go_wp2_with fail
  go_loopw [8] (fun iv wr => ∃ n : Nat, iv = .int .i64 n ∧ n ≤ W.length ∧ (∀ e ∈ W.take n, e.v.dot ≠ x.dot) ∧ Grew w wr) (fun iv _ => W.length - (intOf iv).toNat)
  case atStart => exact ⟨0, rfl, Nat.zero_le _, fun e he => by simp at he, Grew.refl _⟩
  case round =>
    obtain ⟨n, rfl, hn, hno, hg⟩ := hrel
    have hn0 : (0 : Int) ≤ n := by omega
    by_cases hlt : n < W.length
    case neg =>
      have hnl : ¬ (n : Int) < W.length := by omega
      rw [List.take_of_length_le (by omega)] at hno
      have NO := Lib.hid hno
      clear hno
      go_wp2_with fail
      go_ret
      exact ⟨-1, rfl, .inl ⟨rfl, NO.out⟩, hg⟩
    case pos =>
      have hltI : (n : Int) < W.length := by omega
      obtain ⟨e, he⟩ := get_of_lt hlt
      obtain ⟨g, o, c', hv, _, _, hglt, hc⟩ := SlAt.ent (HS.out.kept hg.kept) (by omega)
      cases hv
      have c0 : wr.cell? ⟨g, o + n * 11, none⟩ = some (.int .i64 e.v.dot.site) := hc n e he 0 _ rfl
      have c1 : wr.cell? ⟨g, o + n * 11 + 1, none⟩ = some (.int .i64 e.v.dot.seq) := hc n e he 1 _ rfl
      have c2 : wr.cell? ⟨g, o + n * 11 + 2, none⟩ = some (.slice e.v.deps.a e.v.deps.n e.v.deps.c) := hc n e he 2 _ rfl
      have c3 : wr.cell? ⟨g, o + n * 11 + 3, none⟩ = some (.int .i64 e.v.kind) := hc n e he 3 _ rfl
      have c4 : wr.cell? ⟨g, o + n * 11 + 4, none⟩ = some (.int .i64 e.v.id.t) := hc n e he 4 _ rfl
      have c5 : wr.cell? ⟨g, o + n * 11 + 5, none⟩ = some (.int .i64 e.v.id.s) := hc n e he 5 _ rfl
      have c6 : wr.cell? ⟨g, o + n * 11 + 6, none⟩ = some (.int .i64 e.v.ref.t) := hc n e he 6 _ rfl
      have c7 : wr.cell? ⟨g, o + n * 11 + 7, none⟩ = some (.int .i64 e.v.ref.s) := hc n e he 7 _ rfl
      have c8 : wr.cell? ⟨g, o + n * 11 + 8, none⟩ = some (.string e.v.text) := hc n e he 8 _ rfl
      have c9 : wr.cell? ⟨g, o + n * 11 + 9, none⟩ = some (.slice e.v.gone.a e.v.gone.n e.v.gone.c) := hc n e he 9 _ rfl
      have c10 : wr.cell? ⟨g, o + n * 11 + 10, none⟩ = some (.int .i64 e.v.site) := hc n e he 10 _ rfl
      have HE := Lib.hid he
      have NO := Lib.hid hno
      have HG := Lib.hid hg
      have hcall := off1_any (hg.kept.cell X0.out) (hg.kept.cell X1.out) (Nat.lt_of_lt_of_le hb hg.size) e.v
      clear he hc hno hg
      by_cases hd : e.v.dot = x.dot
      · rw [decide_eq_true hd] at hcall
        have HD := Lib.hid hd
        clear hd
        go_wp2_with (go_at_call 40; refine hcall.mono ?_; rintro r w1 ⟨rfl, hg1⟩)
        go_ret
        exact ⟨n, rfl, .inr ⟨by omega, e, List.mem_of_getElem? HE.out, HD.out⟩, HG.out.trans hg1⟩
      · rw [decide_eq_false hd] at hcall
        have HD := Lib.hid hd
        clear hd
        go_wp2_with (go_at_call 40; refine hcall.mono ?_; rintro r w1 ⟨rfl, hg1⟩)
        go_roundw
        case rel =>
          refine ⟨n + 1, by go_num, by omega, fun y hy => ?_, HG.out.trans hg1⟩
          rw [List.take_add_one, HE.out] at hy
          rcases List.mem_append.1 hy with hy | hy
          · exact NO.out y hy
          · obtain rfl : y = e := by simpa using hy
            exact HD.out
        case measure => simp [intOf] <;> omega
def hasDot (W : List Ent) (d : Dot) : Bool := W.any fun e => decide (e.v.dot = d)
theorem contains_any {w : World} {b : Nat} {x : OpV} {v : Value} {W : List Ent} (hx0 : w.cell? ⟨b, 0, none⟩ = some (.int .i64 x.dot.site)) (hx1 : w.cell? ⟨b, 1, none⟩ = some (.int .i64 x.dot.seq)) (hb : b < w.heap.size) (h : SlAt entE w v W) (hl : W.length ≤ 1000000000) :
    Calls Tryz.prog 39 #[v, .func (.func 40) #[] #[.pointer (some ⟨b, 0, none⟩)]] w fun r w' => r = .returned (.bool (hasDot W x.dot)) ∧ Grew w w' := by
  have hi := index_any hx0 hx1 hb h hl
  clear h hx0 hx1
  go_enter Tryz.func39, Tryz.ntmps39
  go_wp2_with fail
  refine hi.mono ?_
  rintro r w1 ⟨k, rfl, hk, hg⟩
  rcases hk with ⟨rfl, hno⟩ | ⟨h0, e, he, hd⟩
  · have A : Hid (hasDot W x.dot = false) := Lib.hid (by unfold hasDot; rw [List.any_eq_false]; intro e he; simpa using hno e he)
    clear hno
    go_wp2_with fail
    go_ret
    exact ⟨by rw [A.out]; rfl, hg⟩
  · have A : Hid (hasDot W x.dot = true) := Lib.hid (by unfold hasDot; rw [List.any_eq_true]; exact ⟨e, he, by simpa using hd⟩)
    clear hd he
    go_wp2_with fail
    go_ret
    exact ⟨by rw [A.out]; rfl, hg⟩
end Go.Proofs.YtaaeomapbigfgaaGreat
namespace Go.Proofs.YtaaeomapbigfgaaGreat
open Go.RowKit Go.Proofs.YtaaeomapbigfgaaGreat.St
theorem opA_set (x : OpV) (d s : Sl) : ((opA x).setIfInBounds 2 d.v).setIfInBounds 9 s.v = opA { x with deps := d, gone := s } := rfl
set_option maxRecDepth 100000 in
set_option maxHeartbeats 8000000 in
theorem twin_any {w : World} {x : OpV} {D : List Dot} {G : List Run} (hD : SlAt dotE w x.deps.v D) (hG : SlAt runE w x.gone.v G) (hDl : D.length ≤ 1000000000) (hGl : G.length ≤ 1000000000) :
    Calls Tryz.prog 41 #[.agg (opA x)] w fun r w' => ∃ d s : Sl, r = .returned (.agg (opA { x with deps := d, gone := s })) ∧ w'.ownsRow w.heap.size 28 2 d.v D.length (dotE.flat D) ∧ w'.ownsRow w.heap.size 77 3 s.v G.length (runE.flat G) ∧ Kept (fun _ => False) w w' := by
  have hX := (Blk.new w 42 (opA x)).alloc (.cells zeroOp 42)
  have hZ := Blk.new (w.alloc (.cells (opA x) 42)) 42 zeroOp
  rw [World.size_alloc] at hZ
  have k0 : Kept (fun _ => False) w ((w.alloc (.cells (opA x) 42)).alloc (.cells zeroOp 42)) := ((Kept.refl _ _).alloc _).alloc _
  have s0 : ((w.alloc (.cells (opA x) 42)).alloc (.cells zeroOp 42)).heap.size = w.heap.size + 2 := by simp
  go_enter Tryz.func41, Tryz.ntmps41
  go_upto_region 1 with fail
  generalize ((w.alloc (.cells (opA x) 42)).alloc (.cells zeroOp 42)) = W at *
  have x2 : W.cell? ⟨w.heap.size, 2, none⟩ = some x.deps.v := hX.cell' (i := 2) rfl
  have x9 : W.cell? ⟨w.heap.size, 9, none⟩ = some x.gone.v := hX.cell' (i := 9) rfl
  have kD := k0.drew
  have CD := Lib.hid (clone_dot (hD.kept kD) hDl)
  have CG := Lib.hid (fun (w' : World) (hk : Kept (fun _ => False) w w') => clone_run (hG.kept hk) hGl)
  have K0 := Lib.hid kD
  have KW := Lib.hid (show Kept (fun _ => False) W W.drew from (Kept.refl _ _).drew)
  have HX := Lib.hid hX
  have HZ := Lib.hid hZ
  clear k0 kD hX hZ hD hG
  go_wp2_with fail
  go_region_with (first
    | (go_at_call 30; refine CD.out.mono ?_; rintro r w1 ⟨v1, rfl, ho1, hk1⟩; have O1 := Lib.hid ho1; obtain ⟨a1, c1, rfl⟩ := owns_sl ho1; have x9 := hk1.cell x9; have K1 := Lib.hid (K0.out.trans hk1 (fun _ _ h => h)); have KW1 := Lib.hid (KW.out.trans hk1 (fun _ _ h => h)))
    | (go_at_call 66; refine (CG.out _ K1.out).mono ?_; rintro r w2 ⟨v2, rfl, ho2, hk2⟩; have O2 := Lib.hid ho2; obtain ⟨a2, c2, rfl⟩ := owns_sl ho2; have K2 := Lib.hid (K1.out.trans hk2 (fun _ _ h => h)); have BX := Lib.hid ((KW1.out.trans hk2 (fun _ _ h => h)).blk (fun h => h) HX.out); have x2 := BX.out.cell' (i := 2) rfl; have x9 := BX.out.cell' (i := 9) rfl; have f2 := BX.out.frozen 2; have f9 := BX.out.frozen 9))
  all_goals
    have n1 := owns_new O1.out
    have n2 := owns_new O2.out
    have sW : W.drew.heap.size = w.heap.size + 2 := s0
    have z1 : W.drew.heap.size ≤ w1.heap.size := hk1.size
    have kS : Kept (fun b => b = w.heap.size) w2 ((w2.setCell ⟨w.heap.size, 2, none⟩ (.slice a1 D.length c1)).setCell ⟨w.heap.size, 9, none⟩ (.slice a2 G.length c2)) := ((Kept.refl (fun b => b = w.heap.size) w2).setCell (p := ⟨w.heap.size, 2, none⟩) (fun _ => rfl) _).setCell (p := ⟨w.heap.size, 9, none⟩) (fun _ => rfl) _
    have P1 := Lib.hid (owns_keep (owns_keep O1.out hk2 (fun _ _ h => h)) kS (fun b hb e => by have := n1 b hb; omega))
    have P2 := Lib.hid (owns_keep O2.out kS (fun b hb e => by have := n2 b hb; omega))
    have BX3 : Hid (Blk ((w2.setCell ⟨w.heap.size, 2, none⟩ (.slice a1 D.length c1)).setCell ⟨w.heap.size, 9, none⟩ (.slice a2 G.length c2)) w.heap.size 42 (opA { x with deps := ⟨a1, D.length, c1⟩, gone := ⟨a2, G.length, c2⟩ })) := Lib.hid ((BX.out.set_ 2 (.slice a1 D.length c1)).set_ 9 (.slice a2 G.length c2))
    have BZ3 := Lib.hid (kS.blk (fun e => by have e : w.heap.size + 1 = w.heap.size := e; omega) ((KW1.out.trans hk2 (fun _ _ h => h)).blk (fun h => h) HZ.out))
    have K3 := Lib.hid (K2.out.trans kS (fun b hb e => by omega))
    clear kS hk1 hk2 x2 x9 f2 f9 ho1 ho2 n1 n2
    generalize ((w2.setCell ⟨w.heap.size, 2, none⟩ (.slice a1 D.length c1)).setCell ⟨w.heap.size, 9, none⟩ (.slice a2 G.length c2)) = w3 at *
    have kR : Kept (fun b => b = w.heap.size + 1) w3 (w3.setRow (w.heap.size + 1) (opA { x with deps := ⟨a1, D.length, c1⟩, gone := ⟨a2, G.length, c2⟩ })) := (Kept.refl (fun b => b = w.heap.size + 1) w3).setRow (fun _ => rfl) _
    have m1 := owns_new P1.out
    have m2 := owns_new P2.out
    have R1 := Lib.hid (owns_keep P1.out kR (fun b hb e => by have := m1 b hb; omega))
    have R2 := Lib.hid (owns_keep P2.out kR (fun b hb e => by have := m2 b hb; omega))
    have K4 := Lib.hid (K3.out.trans kR (fun b hb e => by omega))
    clear kR m1 m2
    go_wp2_with (first
      | (refine wpList_load_row rfl 42 _ rfl w.heap.size rfl 42 _ (0, 0) _ BX3.out Tryz.underlying42 rfl (by rw [opA_size]; exact size_op) ?_)
      | (refine wpList_store_row rfl 42 _ _ rfl (w.heap.size + 1) (opA { x with deps := ⟨a1, D.length, c1⟩, gone := ⟨a2, G.length, c2⟩ }) rfl rfl 42 zeroOp BZ3.out (by rw [opA_size]; exact size_op) (by rw [opA_size]; rfl) (opA_one _) ?_))
    exact bodyPost_ret (Blk.result rfl _ (BZ3.out.row _) rfl Tryz.underlying42 rfl (by rw [opA_size]; exact size_op)) rfl ⟨⟨a1, D.length, c1⟩, ⟨a2, G.length, c2⟩, rfl, owns_lower R1.out (by omega), owns_lower R2.out (by omega), K4.out⟩
end Go.Proofs.YtaaeomapbigfgaaGreat
namespace Go.Proofs.YtaaeomapbigfgaaGreat
open Go.RowKit
/-- as Q; by a goto to label l: J l -/
def Exit.jumps (J : Nat → Act → World → Prop) (Q : Exit → Act → World → Prop) : Exit → Act → World → Prop
  | .goto l, a, w => J l a w
  | e, a, w => Q e a w
section
variable {P : Program} {a : Act} {w : World} {Q : Exit → Act → World → Prop}
theorem wp_scope_any {c : Code} (J : Nat → Act → World → Prop) (μ : Nat → Act → World → Nat) (first' : (∀ l a w, J l a w → ∃ rest, findLabel c l = some (Code.skip.seq rest) ∧ rest.wp P (Exit.jumps J Q) a w) → c.wp P (Exit.jumps J Q) a w)
    (pass0 : ∀ l a w, J l a w → ∃ rest, findLabel c l = some (Code.skip.seq rest) ∧ rest.wp P (Exit.jumps (fun l' a' w' => J l' a' w' ∧ μ l' a' w' < μ l a w) Q) a w) : (Code.scope c).wp P Q a w := by
  have first := first' fun l a w hJ => by
    obtain ⟨rest, hf, hp⟩ := pass0 l a w hJ
    refine ⟨rest, hf, wp_mono hp fun e a w h => ?_⟩
    cases e with
    | goto l' => exact h.1
    | _ => exact h
  have pass : ∀ l a w, J l a w → ∃ rest, findLabel c l = some rest ∧ rest.wp P (Exit.jumps (fun l' a' w' => J l' a' w' ∧ μ l' a' w' < μ l a w) Q) a w := fun l a w hJ => by
    obtain ⟨rest, hf, hp⟩ := pass0 l a w hJ
    exact ⟨_, hf, wp_seq (wp_skip hp)⟩
  intro b k cs
  have key : ∀ n l a w, μ l a w = n → J l a w → ∃ rest, findLabel c l = some rest ∧ ∃ e a' w', Q e a' w' ∧ Arrives P (lone (b.at a (.code rest :: .inScope c :: k)) cs w) b k cs e a' w' := by
    intro n
    induction n using Nat.strongRecOn with
    | _ n ih =>
      intro l a w hn hJ
      obtain ⟨rest, hf, hp⟩ := pass l a w hJ
      refine ⟨rest, hf, ?_⟩
      obtain ⟨e, a₁, w₁, hq, harr⟩ := hp b (.inScope c :: k) cs
      cases e with
      | normal => exact ⟨.normal, a₁, w₁, hq, Steps.trans harr (.one step_inScope)⟩
      | exit id => exact ⟨.exit id, a₁, w₁, hq, fun k' hk => harr k' (by simp [exitTo, hk])⟩
      | goto l' =>
        obtain ⟨hJ', hlt⟩ := hq
        obtain ⟨rest', hf', e₂, a₂, w₂, hq₂, harr₂⟩ := ih _ (by omega) l' a₁ w₁ rfl hJ'
        exact ⟨e₂, a₂, w₂, hq₂, .of_steps (harr _ (by simp [gotoIn, hf'])) harr₂⟩
      | ret => exact ⟨_, a₁, w₁, hq, harr⟩
      | panic ch => exact ⟨_, a₁, w₁, hq, harr⟩
      | outgrown => exact ⟨_, a₁, w₁, hq, harr⟩
  obtain ⟨e, a₁, w₁, hq, harr⟩ := first b (.inScope c :: k) cs
  cases e with
  | normal => exact ⟨.normal, a₁, w₁, hq, .head step_scope (Steps.trans harr (.one step_inScope))⟩
  | exit id => exact ⟨.exit id, a₁, w₁, hq, fun k' hk => .head step_scope (harr k' (by simp [exitTo, hk]))⟩
  | goto l' =>
    obtain ⟨rest', hf', e₂, a₂, w₂, hq₂, harr₂⟩ := key _ l' a₁ w₁ rfl hq
    exact ⟨e₂, a₂, w₂, hq₂, .of_steps (.head step_scope (harr _ (by simp [gotoIn, hf']))) harr₂⟩
  | ret => exact ⟨_, a₁, w₁, hq, .of_steps (.one step_scope) harr⟩
  | panic ch => exact ⟨_, a₁, w₁, hq, .of_steps (.one step_scope) harr⟩
  | outgrown => exact ⟨_, a₁, w₁, hq, .of_steps (.one step_scope) harr⟩
end
end Go.Proofs.YtaaeomapbigfgaaGreat
