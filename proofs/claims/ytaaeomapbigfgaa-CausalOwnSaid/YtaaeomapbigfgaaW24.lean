/- hearsayref7.Same. hearsaylaw13.same of two operations that say the same; big. Two operations that were taken and say the same. op.of and op.Check of a join. -/
import Derived.Test.YtaaeomapbigfgaaW5
import Derived.Test.YtaaeomapbigfgaaW11
import Derived.BigQuiet
import Derived.Test.YtaaeomapbigfgaaW21
import Derived.Test.YtaaeomapbigfgaaW15
import Derived.Laws.EntriesVeiled
import Derived.Deep.CutBlock
namespace Go.Proofs.Ytaaeomapbigfgaa
open Go.RowKit Go.Proofs.Ytaaeomapbigfgaa.St
theorem eq_dot (x y : Dot) : x = y ∨ (x ≠ y ∧ (x.site == y.site) = false) ∨ (x ≠ y ∧ (x.site == y.site) = true ∧ (x.seq == y.seq) = false) := by
  by_cases h1 : x.site = y.site
  · by_cases h2 : x.seq = y.seq
    · exact .inl (Dot.ext h1 h2)
    · exact .inr (.inr ⟨fun e => h2 (by rw [e]), by simpa using h1, by simpa using h2⟩)
  · exact .inr (.inl ⟨fun e => h1 (by rw [e]), by simpa using h1⟩)
set_option maxHeartbeats 1000000 in
theorem same_any {w : World} {u v : Value} {L M : List Dot} (hu : SlAt dotE w u L) (hv : SlAt dotE w v M) (hb : L.length ≤ 1000000000) :
    Calls Try.prog 15 #[u, v] w fun e w' => e = .returned (.bool (decide (L = M))) ∧ ∃ q, w' = w.drewN q := by
  obtain ⟨a, c, rfl, _, _⟩ := hu.sl
  obtain ⟨b, d, rfl, _, _⟩ := hv.sl
  by_cases hl : L.length = M.length
  case neg =>
    have hne : decide (L = M) = false := decide_eq_false fun e => hl (by rw [e])
    have hlb : ((L.length : Int) != M.length) = true := by simp; omega
    rw [hne]
    clear hu hv hl hne
    go_enter Try.func15, Try.ntmps15
    go_wp2
    go_ret
    exact ⟨rfl, 0, rfl⟩
  case pos =>
    have hlb : ((L.length : Int) != M.length) = false := by simp; omega
    have HU := Lib.hid hu
    have HV := Lib.hid hv
    have HL := Lib.hid hl
    clear hu hv hl
    go_enter Try.func15, Try.ntmps15
    go_wp2
    go_loopw [5] (fun i wr => ∃ n q : Nat, i = .int .i64 n ∧ n ≤ L.length ∧ L.take n = M.take n ∧ wr = w.drewN q) (fun i _ => L.length - (intOf i).toNat)
    case atStart => exact ⟨0, 0, rfl, Nat.zero_le _, rfl, rfl⟩
    case round =>
      obtain ⟨n, q, rfl, hn, ht, rfl⟩ := hrel
      have TT := Lib.hid ht
      clear ht
      by_cases hlt : n < L.length
      case neg =>
        have hge : L.length ≤ n := by omega
        have e : decide (L = M) = true := decide_eq_true (by have := TT.out; rw [List.take_of_length_le hge, List.take_of_length_le (by rw [← HL.out]; exact hge)] at this; exact this)
        have E := Lib.hid e
        clear e
        go_wp2
        go_ret
        exact ⟨by rw [E.out]; rfl, _, rfl⟩
      case pos =>
        have hlM := HL.out
        obtain ⟨x, hx⟩ := get_of_lt hlt
        obtain ⟨y, hy⟩ := get_of_lt (show n < M.length by omega)
        obtain ⟨g, o, c', e1, _, h1⟩ := SlAt.dot HU.out (by omega)
        obtain ⟨g', o', c2, e2, _, h2⟩ := SlAt.dot HV.out (by omega)
        cases e1
        cases e2
        obtain ⟨k1, k2⟩ := h1 n x hx
        obtain ⟨k4, k5⟩ := h2 n y hy
        have X0 := Lib.hid hx
        have Y0 := Lib.hid hy
        have hn0 : (0 : Int) ≤ n := by omega
        have hnl : (n : Int) < L.length := by omega
        have hnm : (n : Int) < M.length := by omega
        clear hx hy h1 h2 hlM
        rcases eq_dot x y with rfl | ⟨hxy, e1⟩ | ⟨hxy, e1, e2⟩
        · go_wp2
          go_quiet (fail)
          go_wp2
          go_roundw
          case rel => exact ⟨n + 1, _, by go_num, by omega, by rw [List.take_add_one, List.take_add_one, X0.out, Y0.out, TT.out], rfl⟩
          case measure => simp [intOf]; omega
        all_goals
          have HNE := Lib.hid hxy
          clear hxy
          have NE : Hid (decide (L = M) = false) := decide_eq_false fun e => by
            have hz := Y0.out
            rw [← e, X0.out] at hz
            exact HNE.out (Option.some.inj hz)
          go_wp2
          go_quiet (fail)
          go_wp2
          go_ret
          exact ⟨by rw [NE.out]; rfl, _, World.drewN_drewN _ _ _⟩
end Go.Proofs.Ytaaeomapbigfgaa
namespace Go.Proofs.Ytaaeomapbigfgaa
open Go.RowKit Go.Proofs.Ytaaeomapbigfgaa.St
set_option maxRecDepth 100000 in
set_option maxHeartbeats 4000000 in
theorem same_op {w : World} {x : OpV} {d z d' z' : Sl} {D : List Dot} {G : List Run} (hD : SlAt dotE w d.v D) (hD' : SlAt dotE w d'.v D) (hG : SlAt runE w z.v G) (hG' : SlAt runE w z'.v G) (hDl : D.length ≤ 1000000000) (hGl : G.length ≤ 1000000000) :
    Calls Try.prog 16 #[.agg (opA { x with deps := d, gone := z }), .agg (opA { x with deps := d', gone := z' })] w fun r w' => r = .returned (.bool true) ∧ Kept (fun _ => False) w w' := by
  have hA := (Blk.new w 34 (opA { x with deps := d, gone := z })).alloc (.cells (opA { x with deps := d', gone := z' }) 34)
  have hB := Blk.new (w.alloc (.cells (opA { x with deps := d, gone := z }) 34)) 34 (opA { x with deps := d', gone := z' })
  have k0 : Kept (fun _ => False) w ((w.alloc (.cells (opA { x with deps := d, gone := z }) 34)).alloc (.cells (opA { x with deps := d', gone := z' }) 34)) := ((Kept.refl _ _).alloc _).alloc _
  rw [World.size_alloc] at hB
  obtain ⟨W, hW⟩ : ∃ W, ((w.alloc (.cells (opA { x with deps := d, gone := z }) 34)).alloc (.cells (opA { x with deps := d', gone := z' }) 34)) = W := ⟨_, rfl⟩
  rw [hW] at hA hB k0
  have HW := Lib.hid hW
  have hn1 : z.n = G.length := by obtain ⟨_, _, he, _⟩ := hG.sl; injection he
  have hn2 : z'.n = G.length := by obtain ⟨_, _, he, _⟩ := hG'.sl; injection he
  obtain ⟨za, zn, zc⟩ := z
  obtain ⟨ya, yn, yc⟩ := z'
  obtain rfl : zn = G.length := hn1
  obtain rfl : yn = G.length := hn2
  have a0 : W.cell? ⟨w.heap.size, 0, none⟩ = some (.int .i64 x.dot.site) := hA.cell' (i := 0) rfl
  have a1 : W.cell? ⟨w.heap.size, 1, none⟩ = some (.int .i64 x.dot.seq) := hA.cell' (i := 1) rfl
  have a2 : W.cell? ⟨w.heap.size, 2, none⟩ = some (.slice d.a d.n d.c) := hA.cell' (i := 2) rfl
  have a3 : W.cell? ⟨w.heap.size, 3, none⟩ = some (.int .i64 x.kind) := hA.cell' (i := 3) rfl
  have a4 : W.cell? ⟨w.heap.size, 4, none⟩ = some (.int .i64 x.id.t) := hA.cell' (i := 4) rfl
  have a5 : W.cell? ⟨w.heap.size, 5, none⟩ = some (.int .i64 x.id.s) := hA.cell' (i := 5) rfl
  have a6 : W.cell? ⟨w.heap.size, 6, none⟩ = some (.int .i64 x.ref.t) := hA.cell' (i := 6) rfl
  have a7 : W.cell? ⟨w.heap.size, 7, none⟩ = some (.int .i64 x.ref.s) := hA.cell' (i := 7) rfl
  have a8 : W.cell? ⟨w.heap.size, 8, none⟩ = some (.string x.text) := hA.cell' (i := 8) rfl
  have a9 : W.cell? ⟨w.heap.size, 9, none⟩ = some (.slice za G.length zc) := hA.cell' (i := 9) rfl
  have a10 : W.cell? ⟨w.heap.size, 10, none⟩ = some (.int .i64 x.site) := hA.cell' (i := 10) rfl
  have b0 : W.cell? ⟨w.heap.size + 1, 0, none⟩ = some (.int .i64 x.dot.site) := hB.cell' (i := 0) rfl
  have b1 : W.cell? ⟨w.heap.size + 1, 1, none⟩ = some (.int .i64 x.dot.seq) := hB.cell' (i := 1) rfl
  have b2 : W.cell? ⟨w.heap.size + 1, 2, none⟩ = some (.slice d'.a d'.n d'.c) := hB.cell' (i := 2) rfl
  have b3 : W.cell? ⟨w.heap.size + 1, 3, none⟩ = some (.int .i64 x.kind) := hB.cell' (i := 3) rfl
  have b4 : W.cell? ⟨w.heap.size + 1, 4, none⟩ = some (.int .i64 x.id.t) := hB.cell' (i := 4) rfl
  have b5 : W.cell? ⟨w.heap.size + 1, 5, none⟩ = some (.int .i64 x.id.s) := hB.cell' (i := 5) rfl
  have b6 : W.cell? ⟨w.heap.size + 1, 6, none⟩ = some (.int .i64 x.ref.t) := hB.cell' (i := 6) rfl
  have b7 : W.cell? ⟨w.heap.size + 1, 7, none⟩ = some (.int .i64 x.ref.s) := hB.cell' (i := 7) rfl
  have b8 : W.cell? ⟨w.heap.size + 1, 8, none⟩ = some (.string x.text) := hB.cell' (i := 8) rfl
  have b9 : W.cell? ⟨w.heap.size + 1, 9, none⟩ = some (.slice ya G.length yc) := hB.cell' (i := 9) rfl
  have b10 : W.cell? ⟨w.heap.size + 1, 10, none⟩ = some (.int .i64 x.site) := hB.cell' (i := 10) rfl
  have HS := Lib.hid (same_any (hD.kept k0) (hD'.kept k0) hDl)
  have HG1 := Lib.hid (hG.kept k0)
  have HG2 := Lib.hid (hG'.kept k0)
  have K0 := Lib.hid k0
  clear hA hB k0 hW hD hD' hG hG'
  go_enter Try.func16, Try.ntmps16
  go_upto_region 1 with fail
  rw [HW.out]
  clear HW
  go_wp2_with (go_at_call 15; refine HS.out.mono ?_; rintro r w2 ⟨rfl, q0, rfl⟩)
  clear HS a0 a1 a2 a3 a4 a5 a6 a7 a8 a10 b0 b1 b2 b3 b4 b5 b6 b7 b8 b10
  go_loopw [5] (fun i wr => ∃ n q : Nat, i = .int .i64 n ∧ n ≤ G.length ∧ wr = W.drewN q) (fun i _ => G.length - (intOf i).toNat)
  case atStart => exact ⟨0, q0, rfl, Nat.zero_le _, rfl⟩
  case round =>
    obtain ⟨n, q, rfl, hn, rfl⟩ := hrel
    by_cases hlt : n < G.length
    case neg =>
      have hnl : ¬ (n : Int) < G.length := by omega
      go_wp2_with fail
      go_ret
      exact ⟨rfl, K0.out.drewN _⟩
    case pos =>
      obtain ⟨x, hx⟩ := get_of_lt hlt
      obtain ⟨g, o, c', e1, _, h1⟩ := St.SlAt.run HG1.out (by omega)
      obtain ⟨g', o', c2, e2, _, h2⟩ := St.SlAt.run HG2.out (by omega)
      injection e1 with e1 _ e3
      injection e2 with e2 _ e4
      subst e1 e2 e3 e4
      obtain ⟨k1, k2, k3⟩ := h1 n x hx
      obtain ⟨k4, k5, k6⟩ := h2 n x hx
      have hn0 : (0 : Int) ≤ n := by omega
      have hnl : (n : Int) < G.length := by omega
      clear hx h1 h2
      go_wp2
      go_quiet (fail)
      go_wp2
      go_roundw
      case rel => exact ⟨n + 1, _, by go_num, by omega, rfl⟩
      case measure => simp [intOf]; omega
end Go.Proofs.Ytaaeomapbigfgaa
namespace Go.Proofs.Ytaaeomapbigfgaa
open Go.RowKit Go.Proofs.Ytaaeomapbigfgaa.St
theorem slN {α : Type} {E : Enc α} (w : World) : SlAt E w (.slice none 0 0) ([] : List α) := owns_slAt (base := 0) (t := 0) (n := 0) (World.ownsRow_nil _ _ _ _)
/-- the operation that says nothing -/
def zeroX : OpV := ⟨⟨0, 0⟩, ⟨none, 0, 0⟩, 0, ⟨0, 0⟩, ⟨0, 0⟩, ByteArray.empty, ⟨none, 0, 0⟩, 0⟩
theorem same_zero (w : World) : Calls Try.prog 16 #[.agg zeroOp, .agg zeroOp] w fun r w' => r = .returned (.bool true) ∧ Kept (fun _ => False) w w' :=
  same_op (x := zeroX) (d := ⟨none, 0, 0⟩) (z := ⟨none, 0, 0⟩) (d' := ⟨none, 0, 0⟩) (z' := ⟨none, 0, 0⟩) (D := []) (G := []) (slN w) (slN w) (slN w) (slN w) (by simp) (by simp)
theorem same_taken {w : World} {e f : Ent} (he : e.Own w) (hf : f.Own w) (hc : cont e = cont f) : Calls Try.prog 16 #[.agg (opA e.v), .agg (opA f.v)] w fun r w' => r = .returned (.bool true) ∧ Kept (fun _ => False) w w' := by
  obtain ⟨x, D, G⟩ := e
  obtain ⟨y, D', G'⟩ := f
  have h1 : ({ x with deps := ⟨none, 0, 0⟩, gone := ⟨none, 0, 0⟩ } : OpV) = { y with deps := ⟨none, 0, 0⟩, gone := ⟨none, 0, 0⟩ } := congrArg Prod.fst hc
  have h2 : D = D' := congrArg (fun c : Cont => c.2.1) hc
  have h3 : G = G' := congrArg (fun c : Cont => c.2.2) hc
  subst h2 h3
  have hy : y = { x with deps := y.deps, gone := y.gone } := by
    obtain ⟨a1, a2, a3, a4, a5, a6, a7, a8⟩ := x
    obtain ⟨b1, b2, b3, b4, b5, b6, b7, b8⟩ := y
    injection h1 with c1 _ c3 c4 c5 c6 _ c8
    subst c1 c3 c4 c5 c6 c8
    rfl
  have := same_op (x := x) (d := x.deps) (z := x.gone) (d' := y.deps) (z' := y.gone) he.at_.deps hf.at_.deps he.at_.gone hf.at_.gone (Nat.le_trans he.len (by decide)) (Nat.le_trans he.len2 (by decide))
  rw [← hy] at this
  exact this
end Go.Proofs.Ytaaeomapbigfgaa
namespace Go.Proofs.Ytaaeomapbigfgaa
open Go.RowKit Go.Proofs.Ytaaeomapbigfgaa.St
set_option maxRecDepth 100000 in
set_option maxHeartbeats 4000000 in
theorem of_join {w : World} {x : OpV} (hk : x.kind = 3) : Calls Try.prog 42 #[.agg (opA x)] w fun e w' => e = .returned (.iface 101 (.agg #[.int .i64 x.site])) ∧ Grew w w' := by
  have hB := Blk.new w 34 (opA x)
  have k0 : Grew w (w.alloc (.cells (opA x) 34)) := (Grew.refl _).alloc _
  have b3 : (w.alloc (.cells (opA x) 34)).cell? ⟨w.heap.size, 3, none⟩ = some (.int .i64 3) := by rw [← hk]; exact hB.cell' (i := 3) rfl
  have b10 : (w.alloc (.cells (opA x) 34)).cell? ⟨w.heap.size, 10, none⟩ = some (.int .i64 x.site) := hB.cell' (i := 10) rfl
  clear hB
  go_enter Try.func42, Try.ntmps42
  go_wp2_with fail
  go_ret
  exact ⟨rfl, k0⟩
/-- an operation that is a join and nothing else -/
structure OpV.Join (x : OpV) : Prop where
  kind : x.kind = 3
  id : x.id = ⟨0, 0⟩
  ref : x.ref = ⟨0, 0⟩
  text : x.text = ⟨#[]⟩
  gone : x.gone.n = 0
  site : 1 ≤ x.site ∧ x.site ≤ 16
set_option maxRecDepth 100000 in
set_option maxHeartbeats 4000000 in
theorem rest_any {w : World} (x : OpV) : Calls Try.prog 93 #[.agg (opA x)] w fun e w' => e = .returned (.agg #[.int .i64 x.id.t, .int .i64 x.id.s, .int .i64 x.ref.t, .int .i64 x.ref.s, .string x.text, .int .i64 x.site]) ∧ Grew w w' := by
  have hB := (Blk.new w 34 (opA x)).alloc (.cells #[.int .i64 0, .int .i64 0, .int .i64 0, .int .i64 0, .string ⟨#[]⟩, .int .i64 0] 146)
  have hR := Blk.new (w.alloc (.cells (opA x) 34)) 146 #[.int .i64 0, .int .i64 0, .int .i64 0, .int .i64 0, .string ⟨#[]⟩, .int .i64 0]
  have k0 : Grew w ((w.alloc (.cells (opA x) 34)).alloc (.cells #[.int .i64 0, .int .i64 0, .int .i64 0, .int .i64 0, .string ⟨#[]⟩, .int .i64 0] 146)) := ((Grew.refl _).alloc _).alloc _
  rw [World.size_alloc] at hR
  go_enter Try.func93, Try.ntmps93
  go_upto_region 1 with fail
  generalize ((w.alloc (.cells (opA x) 34)).alloc (.cells #[.int .i64 0, .int .i64 0, .int .i64 0, .int .i64 0, .string ⟨#[]⟩, .int .i64 0] 146)) = W at *
  have b4 : W.cell? ⟨w.heap.size, 4, none⟩ = some (.int .i64 x.id.t) := hB.cell' (i := 4) rfl
  have b5 : W.cell? ⟨w.heap.size, 5, none⟩ = some (.int .i64 x.id.s) := hB.cell' (i := 5) rfl
  have b6 : W.cell? ⟨w.heap.size, 6, none⟩ = some (.int .i64 x.ref.t) := hB.cell' (i := 6) rfl
  have b7 : W.cell? ⟨w.heap.size, 7, none⟩ = some (.int .i64 x.ref.s) := hB.cell' (i := 7) rfl
  have b8 : W.cell? ⟨w.heap.size, 8, none⟩ = some (.string x.text) := hB.cell' (i := 8) rfl
  have b10 : W.cell? ⟨w.heap.size, 10, none⟩ = some (.int .i64 x.site) := hB.cell' (i := 10) rfl
  have HR := Lib.hid hR
  have K0 := Lib.hid k0
  have SZ : (Try.prog.info? 146).map (·.size) = some 6 := by kernel_rfl
  have HZ := Lib.hid SZ
  clear hB hR k0 SZ
  go_wp2_with (refine wpList_store_row rfl 146 _ _ rfl (w.heap.size + 1) #[.int .i64 x.id.t, .int .i64 x.id.s, .int .i64 x.ref.t, .int .i64 x.ref.s, .string x.text, .int .i64 x.site] rfl rfl 146 #[.int .i64 0, .int .i64 0, .int .i64 0, .int .i64 0, .string ⟨#[]⟩, .int .i64 0] HR.out HZ.out rfl (by simp [Value.oneCell']) ?_)
  exact bodyPost_ret (Blk.result rfl _ (HR.out.row _) rfl Try.underlying146 rfl HZ.out) rfl ⟨rfl, K0.out.setRow (by omega) _⟩
set_option maxRecDepth 100000 in
set_option maxHeartbeats 8000000 in
theorem right_join {w : World} {x : OpV} (hx : x.Join) : Calls Try.prog 109 #[.agg #[.int .i64 x.site], .agg (opA x)] w fun e w' => e = .returned (.bool true) ∧ Grew w w' := by
  have hmix : Try.prog.follows .mixedOrders = true := by kernel_rfl
  have hS := (Blk.new w 101 #[.int .i64 x.site]).alloc (.cells (opA x) 34)
  have hB := Blk.new (w.alloc (.cells #[.int .i64 x.site] 101)) 34 (opA x)
  have k0 : Grew w ((w.alloc (.cells #[.int .i64 x.site] 101)).alloc (.cells (opA x) 34)) := ((Grew.refl _).alloc _).alloc _
  rw [World.size_alloc] at hB
  have s0 : ((w.alloc (.cells #[.int .i64 x.site] 101)).alloc (.cells (opA x) 34)).heap.size = w.heap.size + 2 := by simp
  have h1 := hx.site.1
  have h2 := hx.site.2
  obtain ⟨W, hW⟩ : ∃ W, ((w.alloc (.cells #[.int .i64 x.site] 101)).alloc (.cells (opA x) 34)) = W := ⟨_, rfl⟩
  rw [hW] at hS hB k0 s0
  have s1 := cell_grown (w := W) (by show w.heap.size < _; omega) (show W.cell? ⟨w.heap.size, 0, none⟩ = some (.int .i64 x.site) from hS.cell' (i := 0) rfl)
  have b0 := cell_grown (w := W) (by show w.heap.size + 1 < _; omega) (show W.cell? ⟨w.heap.size + 1, 0, none⟩ = some (.int .i64 x.dot.site) from hB.cell' (i := 0) rfl)
  have b1 := cell_grown (w := W) (by show w.heap.size + 1 < _; omega) (show W.cell? ⟨w.heap.size + 1, 1, none⟩ = some (.int .i64 x.dot.seq) from hB.cell' (i := 1) rfl)
  have b2 := cell_grown (w := W) (by show w.heap.size + 1 < _; omega) (show W.cell? ⟨w.heap.size + 1, 2, none⟩ = some (.slice x.deps.a x.deps.n x.deps.c) from hB.cell' (i := 2) rfl)
  have b3 := cell_grown (w := W) (by show w.heap.size + 1 < _; omega) (show W.cell? ⟨w.heap.size + 1, 3, none⟩ = some (.int .i64 x.kind) from hB.cell' (i := 3) rfl)
  have b4 := cell_grown (w := W) (by show w.heap.size + 1 < _; omega) (show W.cell? ⟨w.heap.size + 1, 4, none⟩ = some (.int .i64 0) from (hB.cell' (i := 4) rfl : W.cell? ⟨w.heap.size + 1, 4, none⟩ = some (.int .i64 x.id.t)).trans (by rw [hx.id]))
  have b5 := cell_grown (w := W) (by show w.heap.size + 1 < _; omega) (show W.cell? ⟨w.heap.size + 1, 5, none⟩ = some (.int .i64 0) from (hB.cell' (i := 5) rfl : W.cell? ⟨w.heap.size + 1, 5, none⟩ = some (.int .i64 x.id.s)).trans (by rw [hx.id]))
  have b6 := cell_grown (w := W) (by show w.heap.size + 1 < _; omega) (show W.cell? ⟨w.heap.size + 1, 6, none⟩ = some (.int .i64 0) from (hB.cell' (i := 6) rfl : W.cell? ⟨w.heap.size + 1, 6, none⟩ = some (.int .i64 x.ref.t)).trans (by rw [hx.ref]))
  have b7 := cell_grown (w := W) (by show w.heap.size + 1 < _; omega) (show W.cell? ⟨w.heap.size + 1, 7, none⟩ = some (.int .i64 0) from (hB.cell' (i := 7) rfl : W.cell? ⟨w.heap.size + 1, 7, none⟩ = some (.int .i64 x.ref.s)).trans (by rw [hx.ref]))
  have b8 := cell_grown (w := W) (by show w.heap.size + 1 < _; omega) (show W.cell? ⟨w.heap.size + 1, 8, none⟩ = some (.string ⟨#[]⟩) from (hB.cell' (i := 8) rfl : W.cell? ⟨w.heap.size + 1, 8, none⟩ = some (.string x.text)).trans (by rw [hx.text]))
  have b9 := cell_grown (w := W) (by show w.heap.size + 1 < _; omega) (show W.cell? ⟨w.heap.size + 1, 9, none⟩ = some (.slice x.gone.a 0 x.gone.c) from (hB.cell' (i := 9) rfl : W.cell? ⟨w.heap.size + 1, 9, none⟩ = some (.slice x.gone.a x.gone.n x.gone.c)).trans (by rw [hx.gone]))
  have b10 := cell_grown (w := W) (by show w.heap.size + 1 < _; omega) (show W.cell? ⟨w.heap.size + 1, 10, none⟩ = some (.int .i64 x.site) from hB.cell' (i := 10) rfl)
  have HR := Lib.hid (fun (w' : World) (_ : Grew W w') => rest_any (w := w') x)
  have hrest : (#[.int .i64 x.id.t, .int .i64 x.id.s, .int .i64 x.ref.t, .int .i64 x.ref.s, .string x.text, .int .i64 x.site] : Array Value) = #[.int .i64 0, .int .i64 0, .int .i64 0, .int .i64 0, .string ⟨#[]⟩, .int .i64 x.site] := by rw [hx.id, hx.ref, hx.text]
  rw [hrest] at HR
  have HX := Lib.hid hx
  have K0 := Lib.hid k0
  have HW := Lib.hid hW
  have HOP : opA x = #[.int .i64 x.dot.site, .int .i64 x.dot.seq, .slice x.deps.a x.deps.n x.deps.c, .int .i64 x.kind, .int .i64 0, .int .i64 0, .int .i64 0, .int .i64 0, .string ⟨#[]⟩, .slice x.gone.a 0 x.gone.c, .int .i64 x.site] := by
    have : opA x = #[.int .i64 x.dot.site, .int .i64 x.dot.seq, .slice x.deps.a x.deps.n x.deps.c, .int .i64 x.kind, .int .i64 x.id.t, .int .i64 x.id.s, .int .i64 x.ref.t, .int .i64 x.ref.s, .string x.text, .slice x.gone.a x.gone.n x.gone.c, .int .i64 x.site] := rfl
    rw [this, hx.id, hx.ref, hx.text, hx.gone]
  have HOP2 := Lib.hid HOP
  clear hx hS hB k0 s0 hW hrest HOP
  go_enter Try.func109, Try.ntmps109
  go_wp2_with fail
  rw [HW.out]
  go_quiet_grown (first
    | (go_at_call 93; rw [← HOP2.out]; exact grown_call HR.out _ _))
  go_wp2_with fail
  go_ret
  exact ⟨rfl, K0.out.trans (Grew.grown _ _)⟩
end Go.Proofs.Ytaaeomapbigfgaa
