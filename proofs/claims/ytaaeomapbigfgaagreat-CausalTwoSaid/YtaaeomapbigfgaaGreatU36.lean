/- hearsaylaw13.back. Two operations that were taken and say the same. What an offer and a taking do to two Queues side by side. hearsaylaw13.does on two Queues that hold the same. -/
import Derived.Test.YtaaeomapbigfgaaGreatU35
import Derived.Test.YtaaeomapbigfgaaGreatU20
import Derived.Test.YtaaeomapbigfgaaGreatU34
import Derived.Deep.DeepCutAuto
namespace Go.Proofs.YtaaeomapbigfgaaGreat
open Go.RowKit Go.Proofs.YtaaeomapbigfgaaGreat.St
theorem size_dot2 : (Tryz.prog.info? 28).map (·.size) = some dotE.k := by kernel_rfl
theorem size_run2 : (Tryz.prog.info? 77).map (·.size) = some runE.k := by kernel_rfl
set_option maxRecDepth 100000 in
set_option maxHeartbeats 8000000 in
theorem back_any {w : World} {x : OpV} {D : List Dot} {G : List Run} {gd cd gz cz : Nat} {d' z' : Sl} (hD : OwnAt dotE w 28 gd cd (D ++ [⟨901, 902⟩])) (hG : OwnAt runE w 77 gz cz (G ++ [⟨⟨0, 0⟩, 903⟩])) (hne : gd ≠ gz) (hD' : SlAt dotE w d'.v D) (hG' : SlAt runE w z'.v G) (hDl : D.length ≤ 1000000) (hGl : G.length ≤ 1000000) :
    Calls Tryz.prog 34 #[.agg (opA { x with deps := ⟨some ⟨gd, 0, none⟩, D.length, cd⟩, gone := ⟨some ⟨gz, 0, none⟩, G.length, cz⟩ }), .agg (opA { x with deps := d', gone := z' })] w fun r w' => r = .returned (.bool true) ∧ Kept (fun b => b = gd ∨ b = gz) w w' := by
  have hA := (Blk.new w 42 (opA { x with deps := ⟨some ⟨gd, 0, none⟩, D.length, cd⟩, gone := ⟨some ⟨gz, 0, none⟩, G.length, cz⟩ })).alloc (.cells (opA { x with deps := d', gone := z' }) 42)
  have hB := Blk.new (w.alloc (.cells (opA { x with deps := ⟨some ⟨gd, 0, none⟩, D.length, cd⟩, gone := ⟨some ⟨gz, 0, none⟩, G.length, cz⟩ }) 42)) 42 (opA { x with deps := d', gone := z' })
  rw [World.size_alloc] at hB
  have k0 : Kept (fun _ => False) w ((w.alloc (.cells (opA { x with deps := ⟨some ⟨gd, 0, none⟩, D.length, cd⟩, gone := ⟨some ⟨gz, 0, none⟩, G.length, cz⟩ }) 42)).alloc (.cells (opA { x with deps := d', gone := z' }) 42)) := ((Kept.refl _ _).alloc _).alloc _
  obtain ⟨_, _, hdv, _, _⟩ := hD'.sl
  obtain ⟨_, _, hgv, _, _⟩ := hG'.sl
  have hdn : d'.n = D.length := by unfold Sl.v at hdv; injection hdv
  have hgn : z'.n = G.length := by unfold Sl.v at hgv; injection hgv
  have OD0 := Lib.hid (hD.keep k0 (fun h => h))
  have OG0 := Lib.hid (hG.keep k0 (fun h => h))
  have SD := Lib.hid (hD'.kept k0)
  have SG := Lib.hid (hG'.kept k0)
  have hdlt := hD.lt
  have hglt := hG.lt
  have hdle := hD.le
  have hgle := hG.le
  have hm : (D ++ [(⟨901, 902⟩ : Dot)]).length = D.length + 1 := by simp
  have hm2 : (G ++ [(⟨⟨0, 0⟩, 903⟩ : Run)]).length = G.length + 1 := by simp
  rw [hm] at hdle
  rw [hm2] at hgle
  have hcd := hdle.2
  have hcz := hgle.2
  unfold maxLen at hcd hcz
  have SZD := Lib.hid size_dot2
  have SZR := Lib.hid size_run2
  have NE := Lib.hid hne
  clear hD hG hD' hG' hdv hgv hm hm2 hne
  go_enter Tryz.func34, Tryz.ntmps34
  go_upto_region 1 with fail
  obtain ⟨W, hW⟩ : ∃ W, ((w.alloc (.cells (opA { x with deps := ⟨some ⟨gd, 0, none⟩, D.length, cd⟩, gone := ⟨some ⟨gz, 0, none⟩, G.length, cz⟩ }) 42)).alloc (.cells (opA { x with deps := d', gone := z' }) 42)) = W := ⟨_, rfl⟩
  rw [hW] at hA hB k0 OD0 OG0 SD SG ⊢
  have BA := Lib.hid hA
  have BB := Lib.hid hB
  have K0 := Lib.hid k0
  have y2 : W.cell? ⟨w.heap.size + 1, 2, none⟩ = some (.slice d'.a D.length d'.c) := (hB.cell' (i := 2) rfl).trans (by rw [← hdn]; rfl)
  have y9 : W.cell? ⟨w.heap.size + 1, 9, none⟩ = some (.slice z'.a G.length z'.c) := (hB.cell' (i := 9) rfl).trans (by rw [← hgn]; rfl)
  have a2 : W.cell? ⟨w.heap.size, 2, none⟩ = some (.slice (some ⟨gd, 0, none⟩) D.length cd) := hA.cell' (i := 2) rfl
  have a9 : W.cell? ⟨w.heap.size, 9, none⟩ = some (.slice (some ⟨gz, 0, none⟩) G.length cz) := hA.cell' (i := 9) rfl
  have m1 : W.cell? ⟨gd, D.length * 2 + 1, none⟩ = some (.int .i64 902) := OD0.out.cell (i := D.length) (j := 1) (x := ⟨901, 902⟩) (by simp) rfl
  have m2 : W.cell? ⟨gz, G.length * 3 + 2, none⟩ = some (.int .i64 903) := OG0.out.cell (i := G.length) (j := 2) (x := ⟨⟨0, 0⟩, 903⟩) (by simp) rfl
  clear hA hB k0 hW
  go_upto_region 3 with fail
  have SAME := Lib.hid (same_op (x := x) (d := ⟨some ⟨gd, 0, none⟩, D.length, cd⟩) (z := ⟨some ⟨gz, 0, none⟩, G.length, cz⟩) (d' := d') (z' := z') (D := D) (G := G)
    (by have := OD0.out.pre (n := D.length) (by simp); rwa [List.take_left'  rfl] at this) SD.out (by have := OG0.out.pre (n := G.length) (by simp); rwa [List.take_left' rfl] at this) SG.out (by omega) (by omega))
  have hwd : IntKind.i64.wrap ((D.length : Int) + 1) = ((D.length : Int) + 1) := IntWalk.i64_in _ (by omega)
  have hwz : IntKind.i64.wrap ((G.length : Int) + 1) = ((G.length : Int) + 1) := IntWalk.i64_in _ (by omega)
  have hd0 : (0 : Int) ≤ (D.length : Int) + 1 := by omega
  have hz0 : (0 : Int) ≤ (G.length : Int) + 1 := by omega
  have hdc : (D.length : Int) + 1 ≤ cd := by omega
  have hzc : (G.length : Int) + 1 ≤ cz := by omega
  go_upto_region 4 with (first
    | (refine wpList_load_row rfl 42 _ rfl w.heap.size rfl 42 _ (0, 0) _ BA.out Tryz.underlying42 rfl (by rw [opA_size]; exact size_op) ?_)
    | (refine wpList_load_row rfl 42 _ rfl (w.heap.size + 1) rfl 42 _ (0, 0) _ BB.out Tryz.underlying42 rfl (by rw [opA_size]; exact size_op) ?_)
    | (go_at_call 15; refine SAME.out.mono ?_; rintro r w1 ⟨rfl, hk1⟩; have m1 := hk1.cell m1; have m2 := hk1.cell m2; have a2 := hk1.cell a2; have a9 := hk1.cell a9))
  have OD1 := Lib.hid (OD0.out.keep hk1 (fun h => h))
  have OG1 := Lib.hid (OG0.out.keep hk1 (fun h => h))
  have BA1 := Lib.hid (hk1.blk (fun h => h) BA.out)
  have K1 := Lib.hid (K0.out.trans hk1 (fun _ _ h => h))
  clear y2 y9 m1 m2 a2 a9 hk1 OD0 OG0 BA BB K0 SAME SD SG hwd hwz hd0 hz0 hdc hzc hdn hgn
  go_wp2_with fail
  go_loopw [8] (fun iv wr => ∃ (n : Nat) (L : List Dot), iv = .int .i64 n ∧ n ≤ D.length ∧ L.length = D.length + 1 ∧ OwnAt dotE wr 28 gd cd L ∧ OwnAt runE wr 77 gz cz (G ++ [⟨⟨0, 0⟩, 903⟩]) ∧ Blk wr w.heap.size 42 (opA { x with deps := ⟨some ⟨gd, 0, none⟩, D.length, cd⟩, gone := ⟨some ⟨gz, 0, none⟩, G.length, cz⟩ }) ∧ Kept (fun b => b = gd ∨ b = gz) w wr) (fun iv _ => D.length - (intOf iv).toNat)
  case atStart => exact ⟨0, _, rfl, Nat.zero_le _, by simp, OD1.out, OG1.out, BA1.out, K1.out.mono (fun _ _ h => h.elim)⟩
  case round =>
    clear OD1 OG1 BA1 K1
    obtain ⟨n, L, rfl, hn, hL, hO, hOg, hb, hk⟩ := hrel
    have hn0 : (0 : Int) ≤ n := by omega
    have LL := Lib.hid hL
    have OG := Lib.hid hOg
    have BA := Lib.hid hb
    have KR := Lib.hid hk
    have OD := Lib.hid hO
    clear hL hO hOg hb hk
    by_cases hlt : n < D.length
    case pos =>
      have hltI : (n : Int) < D.length := by omega
      have hcI : (n : Int) < cd := by omega
      have a2 : wr.cell? ⟨w.heap.size, 2, none⟩ = some (.slice (some ⟨gd, 0, none⟩) D.length cd) := BA.out.cell' (i := 2) rfl
      have HKL := Lib.hid (show n < L.length by have := LL.out; omega)
      go_wp2_with (refine wpList_store_elem (E := dotE) rfl 28 (.tmp 53) (.tmp 52) rfl ⟨904, n⟩ (i := n) rfl rfl OD.out HKL.out SZD.out ?_; intro w2 hO2 hk2)
      go_roundw
      case rel => exact ⟨n + 1, _, by go_num, by omega, by rw [List.length_set]; exact LL.out, hO2, OG.out.keep hk2 (fun h => NE.out h.symm), hk2.blk (fun h => by have h : w.heap.size = gd := h; omega) BA.out, KR.out.trans hk2 (fun _ _ h => .inl h)⟩
      case measure => simp [intOf] <;> omega
    case neg =>
      have hnl : ¬ (n : Int) < D.length := by omega
      go_wp2_with fail
      generalize wr = w6 at *
      go_loopw [9] (fun iv wr => ∃ (m : Nat) (Y : List Run), iv = .int .i64 m ∧ m ≤ G.length ∧ Y.length = G.length + 1 ∧ OwnAt runE wr 77 gz cz Y ∧ Blk wr w.heap.size 42 (opA { x with deps := ⟨some ⟨gd, 0, none⟩, D.length, cd⟩, gone := ⟨some ⟨gz, 0, none⟩, G.length, cz⟩ }) ∧ Kept (fun b => b = gd ∨ b = gz) w wr) (fun iv _ => G.length - (intOf iv).toNat)
      case atStart => exact ⟨0, _, rfl, Nat.zero_le _, by simp, OG.out, BA.out, KR.out⟩
      case round =>
        clear OD OG BA KR
        obtain ⟨m, Y, rfl, hm, hY, hO, hb, hk⟩ := hrel
        have hm0 : (0 : Int) ≤ m := by omega
        have YY := Lib.hid hY
        have BA := Lib.hid hb
        have KR := Lib.hid hk
        have OG := Lib.hid hO
        clear hY hO hb hk
        by_cases hlt2 : m < G.length
        case pos =>
          have hltI : (m : Int) < G.length := by omega
          have hcI : (m : Int) < cz := by omega
          have a9 : wr.cell? ⟨w.heap.size, 9, none⟩ = some (.slice (some ⟨gz, 0, none⟩) G.length cz) := BA.out.cell' (i := 9) rfl
          have HKL := Lib.hid (show m < Y.length by have := YY.out; omega)
          go_wp2_with (refine wpList_store_elem (E := runE) rfl 77 (.tmp 63) (.tmp 62) rfl ⟨⟨0, 0⟩, 905⟩ (i := m) rfl rfl OG.out HKL.out SZR.out ?_; intro w2 hO2 hk2)
          go_roundw
          case rel => exact ⟨m + 1, _, by go_num, by omega, by rw [List.length_set]; exact YY.out, hO2, hk2.blk (fun h => by have h : w.heap.size = gz := h; omega) BA.out, KR.out.trans hk2 (fun _ _ h => .inr h)⟩
          case measure => simp [intOf] <;> omega
        case neg =>
          have hml : ¬ (m : Int) < G.length := by omega
          go_wp2_with fail
          go_ret
          exact ⟨rfl, KR.out⟩
end Go.Proofs.YtaaeomapbigfgaaGreat
namespace Go.Proofs.YtaaeomapbigfgaaGreat
open Go.RowKit Go.Proofs.YtaaeomapbigfgaaGreat.St
theorem slN {α : Type} {E : Enc α} (w : World) : SlAt E w (.slice none 0 0) ([] : List α) := owns_slAt (base := 0) (t := 0) (n := 0) (World.ownsRow_nil _ _ _ _)
/-- the operation that says nothing -/
def zeroX : OpV := ⟨⟨0, 0⟩, ⟨none, 0, 0⟩, 0, ⟨0, 0⟩, ⟨0, 0⟩, ByteArray.empty, ⟨none, 0, 0⟩, 0⟩
theorem same_zero (w : World) : Calls Tryz.prog 15 #[.agg zeroOp, .agg zeroOp] w fun r w' => r = .returned (.bool true) ∧ Kept (fun _ => False) w w' :=
  same_op (x := zeroX) (d := ⟨none, 0, 0⟩) (z := ⟨none, 0, 0⟩) (d' := ⟨none, 0, 0⟩) (z' := ⟨none, 0, 0⟩) (D := []) (G := []) (slN w) (slN w) (slN w) (slN w) (by simp) (by simp)
theorem same_taken {w : World} {e f : Ent} (he : e.Own w) (hf : f.Own w) (hc : cont e = cont f) : Calls Tryz.prog 15 #[.agg (opA e.v), .agg (opA f.v)] w fun r w' => r = .returned (.bool true) ∧ Kept (fun _ => False) w w' := by
  obtain ⟨x, D, G⟩ := e
  obtain ⟨y, D', G'⟩ := f
  have h1 : ({ x with deps := ⟨none, 0, 0⟩, gone := ⟨none, 0, 0⟩ } : OpV) = { y with deps := ⟨none, 0, 0⟩, gone := ⟨none, 0, 0⟩ } := congrArg Prod.fst hc
  have h2 : D = D' := congrArg (fun c : Cont => c.2.1) hc
  have h3 : G = G' := congrArg (fun c : Cont => c.2.2) hc
  subst h2 h3
  have hy : y = { x with deps := y.deps, gone := y.gone } := by
    obtain ⟨a1, a2, a3, a4, a5, a6, a7, a8⟩ := x
    obtain ⟨b1, b2, b3, b4, b5, b6, b7, b8⟩ := y
    injection h1 with c1 _ c3 c4 c5 c6 _ c8
    subst c1 c3 c4 c5 c6 c8
    rfl
  have := same_op (x := x) (d := x.deps) (z := x.gone) (d' := y.deps) (z' := y.gone) he.at_.deps hf.at_.deps he.at_.gone hf.at_.gone (Nat.le_trans he.len (by decide)) (Nat.le_trans he.len2 (by decide))
  rw [← hy] at this
  exact this
end Go.Proofs.YtaaeomapbigfgaaGreat
namespace Go.Proofs.YtaaeomapbigfgaaGreat
open Go.RowKit Go.Proofs.YtaaeomapbigfgaaGreat.St
theorem cdrain_app : ∀ (n : Nat) (V : List Dot) (W O A : List Cont), cdrain n ⟨V, W, O ++ A⟩ = ⟨(cdrain n ⟨V, W, A⟩).V, (cdrain n ⟨V, W, A⟩).W, O ++ (cdrain n ⟨V, W, A⟩).O⟩
  | 0, _, _, _, _ => rfl
  | n + 1, V, W, O, A => by
    unfold cdrain
    simp only
    cases h1 : W.findIdx? (fun k => decide (Ent.can V k.1.dot k.2.1)) with
    | none => rfl
    | some i =>
      cases h2 : W[i]? with
      | none => simp only [h2]
      | some e =>
        simp only [h2]
        rw [List.append_assoc]
        exact cdrain_app n (addV V e.1.dot) (W.eraseIdx i) O (A ++ [e])
theorem coffer_app (hold c : Int) (s : CQ) (e : Cont) : (coffer hold c s e).2.V = (coffer hold c ⟨s.V, s.W, []⟩ e).2.V ∧ (coffer hold c s e).2.W = (coffer hold c ⟨s.V, s.W, []⟩ e).2.W := by
  unfold coffer
  simp only
  split
  · exact ⟨rfl, rfl⟩
  · split
    · exact ⟨rfl, rfl⟩
    · split
      · simp only [List.nil_append]
        rw [cdrain_app s.W.length (addV s.V e.1.dot) s.W s.O [e]]
        exact ⟨rfl, rfl⟩
      · split
        · exact ⟨rfl, rfl⟩
        · exact ⟨rfl, rfl⟩
theorem chk_add {V : List Dot} {d : Dot} (hd : d.Ok) : chkV 0 (addV V d) = 0 := by
  unfold addV
  unfold Dot.Ok at hd
  refine chk_vec (fun i => ?_) (fun i hi => ?_)
  · split
    · omega
    · exact (says_bd V i).2
  · rw [if_neg (by omega)]
    exact says_out V i hi
theorem Chain.chk : ∀ {O : List Cont} {V V' : List Dot}, Chain V O V' → chkV 0 V = 0 → chkV 0 V' = 0
  | [], V, V', h, hc => by
    have h : V' = V := h
    rw [h]; exact hc
  | x :: O, V, V', h, _ => Chain.chk (O := O) h.2.2 (chk_add h.1)
theorem COk.offer {hold c : Int} {s : CQ} {e : Cont} (h : COk hold s) (hok : c = 0 → e.1.dot.Ok) : COk hold (coffer hold c s e).2 := by
  obtain ⟨h1, h2, _, _⟩ := coffer_ord (P := fun _ => True) (c := c) (e := e) (s := ⟨s.V, s.W, []⟩) h.ord rfl (fun hc => ⟨hok hc, trivial⟩)
  obtain ⟨e1, e2⟩ := coffer_app hold c s e
  exact ⟨by rw [e1, e2]; exact h1, by rw [e1]; exact h2.chk h.chk⟩
theorem OpIn.up {w0 w : World} {e : Ent} (h : OpIn w0 e) (hk : Kept (fun b => w0.heap.size ≤ b) w0 w) : OpIn w e :=
  ⟨⟨h.at_.deps.keep hk (fun b _ hlt e => by omega), h.at_.gone.keep hk (fun b _ hlt e => by omega)⟩, h.runs, h.text, h.dots, h.nums, h.ids⟩
theorem Ent.At.up {w0 w : World} {e : Ent} (h : e.At w0) (hk : Kept (fun b => w0.heap.size ≤ b) w0 w) : e.At w :=
  ⟨h.deps.keep hk (fun b _ hlt e => by omega), h.gone.keep hk (fun b _ hlt e => by omega)⟩
def zeroE : Ent := ⟨zeroX, [], []⟩
theorem zeroE_at (w : World) : zeroE.At w := ⟨slN w, slN w⟩
/-- what Take takes -/
def Took (O : List Cont) (e : Ent) (b : Bool) (O' : List Cont) : Prop := (b = false ∧ O = [] ∧ O' = [] ∧ e = zeroE) ∨ (b = true ∧ O = cont e :: O')
theorem Took.one {O A B : List Cont} {e f : Ent} {b c : Bool} (h : Took O e b A) (h' : Took O f c B) : b = c ∧ A = B ∧ cont e = cont f := by
  rcases h with ⟨h1, h2, h3, h4⟩ | ⟨h1, h2⟩
  · rcases h' with ⟨k1, k2, k3, k4⟩ | ⟨k1, k2⟩
    · exact ⟨h1.trans k1.symm, h3.trans k3.symm, by rw [h4, k4]⟩
    · rw [h2] at k2; cases k2
  · rcases h' with ⟨k1, k2, k3, k4⟩ | ⟨k1, k2⟩
    · rw [h2] at k2; cases k2
    · rw [h2] at k2
      injection k2 with k3 k4
      exact ⟨h1.trans k1.symm, k4, k3⟩
theorem Took.le {O A : List Cont} {e : Ent} {b : Bool} (h : Took O e b A) : A.length ≤ O.length ∧ (b = true → A.length < O.length) := by
  rcases h with ⟨h1, h2, h3, h4⟩ | ⟨h1, h2⟩
  · rw [h2, h3]; exact ⟨Nat.le_refl _, fun h => by rw [h1] at h; cases h⟩
  · rw [h2, List.length_cons]; exact ⟨by omega, fun _ => by omega⟩
section
variable {w0 w w' : World} {g r : Nat} {hold : Int} {C K : CQ} {F : Nat → Prop}
/-- rows of a taken operation, in blocks that are no Queue's -/
structure Loose (w0 w : World) (F F0 : Nat → Prop) (e : Ent) : Prop where
  deps : w.ownsRow 0 28 2 e.v.deps.v e.D.length (dotE.flat e.D)
  gone : w.ownsRow 0 77 3 e.v.gone.v e.G.length (runE.flat e.G)
  len : e.D.length ≤ 1000000
  len2 : e.G.length ≤ 1000000
  dB : ∀ b, e.dB = some b → ¬ F b ∧ F0 b ∧ w0.heap.size ≤ b
  gB : ∀ b, e.gB = some b → ¬ F b ∧ F0 b ∧ w0.heap.size ≤ b
theorem Loose.at_ {F0 : Nat → Prop} {e : Ent} (h : Loose w0 w F F0 e) : e.At w := ⟨owns_slAt (E := dotE) h.deps, owns_slAt (E := runE) h.gone⟩
theorem Loose.kept {F0 : Nat → Prop} {e : Ent} (h : Loose w0 w F F0 e) {S : Nat → Prop} (hk : Kept S w w') (hd : ∀ b, e.dB = some b → ¬ S b) (hg : ∀ b, e.gB = some b → ¬ S b) : Loose w0 w' F F0 e :=
  ⟨owns_keep h.deps hk hd, owns_keep h.gone hk hg, h.len, h.len2, h.dB, h.gB⟩
theorem loose_zero (F0 : Nat → Prop) : Loose w0 w F F0 zeroE := ⟨World.ownsRow_nil _ _ _ _, World.ownsRow_nil _ _ _ _, Nat.zero_le _, Nat.zero_le _, fun b h => (by cases h), fun b h => (by cases h)⟩
theorem Duo.takes (h : Duo w0 w g r hold C K F) :
    Calls Tryz.prog 14 #[.pointer (some ⟨g, 0, none⟩)] w fun x w' => ∃ (e : Ent) (b : Bool) (O' : List Cont) (F' : Nat → Prop), x = .returned (.tuple #[.agg (opA e.v), .bool b]) ∧ Took C.O e b O' ∧ Duo w0 w' g r hold ⟨C.V, C.W, O'⟩ K F' ∧ Loose w0 w' F' F e ∧ (∀ b, F' b → F b) ∧ Kept F w w' := by
  have hf := h.fresh
  refine h.take.mono ?_
  rintro x w' (⟨e1, e2, e3, e4⟩ | ⟨e, O', e1, e2, e3, e4, e5, e6, e7⟩)
  · have hC : (⟨C.V, C.W, []⟩ : CQ) = C := by obtain ⟨V, W, O⟩ := C; have e1 : O = [] := e1; rw [e1]
    exact ⟨zeroE, false, [], F, e2, .inl ⟨rfl, e1, rfl, rfl⟩, by rw [hC]; exact e3, loose_zero _, fun _ h => h, e4.mono (fun _ _ h => h.elim)⟩
  · exact ⟨e, true, O', less F e, e2, .inr ⟨rfl, e1⟩, e3, ⟨e4.deps, e4.gone, e4.len, e4.len2, fun b hb => ⟨fun h => h.2.1 hb, e5 b hb, (hf b (e5 b hb)).1⟩, fun b hb => ⟨fun h => h.2.2 hb, e6 b hb, (hf b (e6 b hb)).1⟩⟩, fun _ h => h.1, e7⟩
theorem Duo.rtakes (h : Duo w0 w g r hold C K F) :
    Calls Tryz.prog 36 #[.pointer (some ⟨r, 0, none⟩)] w fun x w' => ∃ (f : Ent) (b : Bool) (O' : List Cont), x = .returned (.tuple #[.agg (opA f.v), .bool b]) ∧ Took K.O f b O' ∧ Duo w0 w' g r hold C ⟨K.V, K.W, O'⟩ F ∧ f.At w' ∧ Kept F w w' := by
  refine h.rtake.mono ?_
  rintro x w' (⟨e1, e2, e3, e4⟩ | ⟨f, O', e1, e2, e3, e4, e5, e6⟩)
  · have hK : (⟨K.V, K.W, []⟩ : CQ) = K := by obtain ⟨V, W, O⟩ := K; have e1 : O = [] := e1; rw [e1]
    exact ⟨zeroE, false, [], e2, .inl ⟨rfl, e1, rfl, rfl⟩, by rw [hK]; exact e3, zeroE_at _, e4.mono (fun _ _ h => h.elim)⟩
  · exact ⟨f, true, O', e2, .inr ⟨rfl, e1⟩, e3, e4.1.up e3.past, e5.mono (fun b _ hb => by have hb : b = r := hb; rw [hb]; exact e6)⟩
end
/-- two operations of the same contents are the same -/
theorem same_conts {w : World} {e f : Ent} (he : e.At w) (hf : f.At w) (hc : cont e = cont f) (hl : e.D.length ≤ 1000000) (hl2 : e.G.length ≤ 1000000) : Calls Tryz.prog 15 #[.agg (opA e.v), .agg (opA f.v)] w fun r w' => r = .returned (.bool true) ∧ Kept (fun _ => False) w w' := by
  obtain ⟨x, D, G⟩ := e
  obtain ⟨y, D', G'⟩ := f
  have h1 : ({ x with deps := ⟨none, 0, 0⟩, gone := ⟨none, 0, 0⟩ } : OpV) = { y with deps := ⟨none, 0, 0⟩, gone := ⟨none, 0, 0⟩ } := congrArg Prod.fst hc
  have h2 : D = D' := congrArg (fun c : Cont => c.2.1) hc
  have h3 : G = G' := congrArg (fun c : Cont => c.2.2) hc
  subst h2 h3
  have hy : y = { x with deps := y.deps, gone := y.gone } := by
    obtain ⟨a1, a2, a3, a4, a5, a6, a7, a8⟩ := x
    obtain ⟨b1, b2, b3, b4, b5, b6, b7, b8⟩ := y
    injection h1 with c1 _ c3 c4 c5 c6 _ c8
    subst c1 c3 c4 c5 c6 c8
    rfl
  have := same_op (x := x) (d := x.deps) (z := x.gone) (d' := y.deps) (z' := y.gone) he.deps hf.deps he.gone hf.gone (Nat.le_trans hl (by decide)) (Nat.le_trans hl2 (by decide))
  rw [← hy] at this
  exact this
end Go.Proofs.YtaaeomapbigfgaaGreat
namespace Go.Proofs.YtaaeomapbigfgaaGreat
open Go.RowKit Go.Proofs.YtaaeomapbigfgaaGreat.St
theorem opC_moved (x : OpV) (d z : Sl) (D : List Dot) (G : List Run) (h : z.n = x.gone.n) : opC { x with deps := d, gone := z } D G = opC x D G := by
  have e : opOk { x with deps := d, gone := z } D G ↔ opOk x D G := by
    unfold opOk rightOk insOk removeOk joinOk bareOk
    simp only [h]
  unfold opC
  by_cases hp : opOk x D G
  · rw [if_pos hp, if_pos (e.2 hp)]
  · rw [if_neg hp, if_neg (fun h => hp (e.1 h))]
/-- the boxed step's operation -/
theorem box_op {w : World} {b : Nat} {t : TypeId} {x : StV} (h : Blk w b t (stE.enc x).toArray) : ∀ j u, (entE.enc x.e)[j]? = some u → w.cell? ⟨b, 0 + j, none⟩ = some u := fun j u hu => by
  rw [Nat.zero_add]
  refine h.cell' (i := j) ?_
  have hj := (List.getElem?_eq_some_iff.1 hu).1
  have h1 : (stE.enc x)[j]? = some u := by
    show (x.e.v.cells ++ [.bool x.no, .int .i64 x.tk])[j]? = some u
    exact (List.getElem?_append_left (l₁ := entE.enc x.e) hj).trans hu
  simpa using h1
/-- what is proved by itself, behind -/
def DoesPost (w0 w : World) (g r : Nat) (hold : Int) (C : CQ) (F : Nat → Prop) (e : Ending) (w' : World) : Prop :=
  e = .returned (.bool true) ∧ ∃ C' F', Duo w0 w' g r hold C' C' F' ∧ COk hold C' ∧ Kept F w w' ∧ (∀ b, F' b → F b ∨ w.heap.size ≤ b) ∧ C'.W.length + C'.O.length ≤ C.W.length + C.O.length + 1
set_option maxRecDepth 100000 in
set_option maxHeartbeats 16000000 in
noncomputable def does0 : PSigma fun Q1 : Prop => PSigma fun Q2 : Prop => Later Q1 → Later Q2 → ∀ (w0 w : World) (g r : Nat) (hold : Int) (C : CQ) (F : Nat → Prop) (x : StV), Duo w0 w g r hold C C F → COk hold C → 0 ≤ hold → hold ≤ 256 → OpIn w0 x.e → ¬ bigP x.e.v → C.W.length + C.O.length ≤ 10000 →
    Calls Tryz.prog 12 #[.pointer (some ⟨g, 0, none⟩), .pointer (some ⟨r, 0, none⟩), .agg (stE.enc x).toArray] w (DoesPost w0 w g r hold C F) := ⟨_, _, fun cut1 cut2 => by
  intro w0 w g r hold C F x hdu hok hh0 hh hx hnb hl
  have hB := Blk.new w 44 (stE.enc x).toArray
  have k0 : Kept (fun _ => False) w (w.alloc (.cells (stE.enc x).toArray 44)) := (Kept.refl _ _).alloc _
  have DU := Lib.hid (hdu.kept k0)
  have OK := Lib.hid hok
  have HX := Lib.hid hx
  have LE := Lib.hid (hx.lens hnb)
  have HL := Lib.hid hl
  have FR := Lib.hid hdu.fresh
  clear hdu hok hx hnb hl
  go_enter Tryz.func12, Tryz.ntmps12
  go_upto_region 1 with fail
  obtain ⟨W, hW⟩ : ∃ W, (w.alloc (.cells (stE.enc x).toArray 44)) = W := ⟨_, rfl⟩
  have hz : W.heap.size = w.heap.size + 1 := by rw [← hW]; simp
  rw [hW] at hB k0 DU ⊢
  have BX := Lib.hid hB
  have K0 := Lib.hid k0
  have x11 : W.cell? ⟨w.heap.size, 11, none⟩ = some (.bool x.no) := hB.cell' (i := 11) rfl
  obtain ⟨no, hno⟩ : ∃ b, x.no = b := ⟨_, rfl⟩
  rw [hno] at x11
  clear hB k0 hW hno
  go_upto_if 21 with fail
  go_cut [6] (fun _ wx => ∃ C1 F1, Duo w0 wx g r hold C1 C1 F1 ∧ COk hold C1 ∧ Kept F w wx ∧ (∀ b, F1 b → F b ∨ w.heap.size ≤ b) ∧ C1.W.length + C1.O.length ≤ C.W.length + C.O.length + 1 ∧ Blk wx w.heap.size 44 (stE.enc x).toArray ∧ (∀ b, F1 b → b ≠ w.heap.size))
  case first =>
    cases no with
    | true =>
      go_wp2_with fail
      go_meet
      case rel => exact ⟨C, F, DU.out, OK.out, K0.out.mono (fun _ _ h => h.elim), fun b h => .inl h, Nat.le_succ _, BX.out, fun b h e => by have := (FR.out b h).2; omega⟩
    | false =>
      (rename_i zQrDoes_1 zQrDoes_2 zQrDoes_3 zQrDoes_4 zQrDoes_5 zQrDoes_6; revert w0 w g r hold C F x hh0 hh OK HX LE HL FR zQrDoes_1 zQrDoes_2 W DU hz BX K0 zQrDoes_3 zQrDoes_4 zQrDoes_5 zQrDoes_6 x11; exact cut1.out)
  case rest =>
    obtain ⟨C1, F1, hdu, hok, hk, hF, hl, hb, hfb⟩ := hcut
    have DU1 := Lib.hid hdu
    have OK1 := Lib.hid hok
    have K1 := Lib.hid hk
    have FF := Lib.hid hF
    have L1 := Lib.hid hl
    have B1 := Lib.hid hb
    have FB := Lib.hid hfb
    clear hdu hok hk hF hl hb hfb DU OK BX K0 x11 LE HX
    (rename_i zQrDoes_1 zQrDoes_2; revert w0 w g r hold C F x hh0 hh HL FR zQrDoes_1 zQrDoes_2 W hz no wc u6 u7 u8 u9 u10 u11 u19 u20 u21 u22 u23 u24 u25 u26 u27 u28 u29 u30 u31 u32 u33 u34 u35 u36 u37 u38 u39 u40 u41 u42 u43 u44 u45 u46 u47 u48 u49 u50 u51 u52 u53 u54 u55 u56 u57 u58 u59 u60 u61 u62 u63 u64 u65 u66 u67 u68 u69 u70 u71 u72 u73 u74 u75 u76 u77 u78 u79 u80 u81 u82 u83 u84 u85 u86 u87 u88 u89 u90 u91 u92 u93 u94 u95 u96 u97 u98 u99 u100 u101 u102 u103 u104 u105 u106 u107 u108 u109 u110 u111 u112 u113 u114 u115 u116 C1 F1 DU1 OK1 K1 FF L1 B1 FB; exact cut2.out)
  ⟩
end Go.Proofs.YtaaeomapbigfgaaGreat
