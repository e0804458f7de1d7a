/- slices.Equal over rows of nodes. The laws' own helpers: two rows of runs, of nodes; an identifier. goes' inner function: what it does with an element that is the wanted one. goes: an iterator over the shown nodes goes through them. -/
import Derived.Test.YtlafodnaifghcaaGreatH6
import Derived.Test.YtlafodnaifghcaaGreatH10
import Derived.Test.YtlafodnaifghcaaGreatH11
import Derived.Test.YtlafodnaifghcaaGreatH9
import Derived.Test.YtlafodnaifghcaaGreatH5
import Derived.Deep.RegionLaw
namespace Go.Proofs.YtlafodnaifghcaaGreat.Tr
open Go.RowKit Go.Proofs.YtlafodnaifghcaaGreat.St
theorem eq_node (x y : Nd) : decide (x = y) = ((x.id.t == y.id.t && x.id.s == y.id.s) && (x.ref.t == y.ref.t && x.ref.s == y.ref.s) && x.rune == y.rune && x.st == y.st) := by
  rw [Bool.eq_iff_iff]
  simp [Nd.ext_iff, ID.ext_iff, and_assoc]
theorem ne_node (x y : Nd) (w : World) : (binOp .neq 45 (.agg (ndC x).toArray) (.agg (ndC y).toArray)).run Tryz.prog w = .ok (.bool (!decide (x = y))) w := by
  rw [eq_node]
  show (binOp .neq 45 (.agg #[.int .i64 x.id.t, .int .i64 x.id.s, .int .i64 x.ref.t, .int .i64 x.ref.s, .int .i32 x.rune, .int .i64 x.st]) (.agg #[.int .i64 y.id.t, .int .i64 y.id.s, .int .i64 y.ref.t, .int .i64 y.ref.s, .int .i32 y.rune, .int .i64 y.st])).run Tryz.prog w = _
  cases h1 : x.id.t == y.id.t
  · go_simp
  cases h2 : x.id.s == y.id.s
  · go_simp
  cases h3 : x.ref.t == y.ref.t
  · go_simp
  cases h4 : x.ref.s == y.ref.s
  · go_simp
  cases h5 : x.rune == y.rune
  · go_simp
  cases h6 : x.st == y.st
  · go_simp
  · go_simp
set_option maxHeartbeats 4000000 in
theorem nodes_eq {w : World} {u v : Value} {L M : List Nd} (hu : SlAt nodeE w u L) (hv : SlAt nodeE w v M) (hb : L.length ≤ 1000000000) :
    Calls Tryz.prog 49 #[u, v] w fun e w' => e = .returned (.bool (decide (L = M))) ∧ ∃ q, w' = w.drewN q := by
  obtain ⟨a, c, rfl, _, _⟩ := hu.sl
  obtain ⟨b, d, rfl, _, _⟩ := hv.sl
  by_cases hl : L.length = M.length
  case neg =>
    have hne : decide (L = M) = false := decide_eq_false fun e => hl (by rw [e])
    have hlb : ((L.length : Int) != M.length) = true := by simp; omega
    rw [hne]
    clear hu hv hl hne
    go_enter Tryz.func49, Tryz.ntmps49
    go_wp2
    go_ret
    exact ⟨rfl, 0, rfl⟩
  case pos =>
    have hlb : ((L.length : Int) != M.length) = false := by simp; omega
    have HU := Lib.hid hu
    have HV := Lib.hid hv
    have HL := Lib.hid hl
    clear hu hv hl
    go_enter Tryz.func49, Tryz.ntmps49
    go_wp2
    go_loopw [13] (fun i wr => ∃ n q : Nat, i = .int .i64 n ∧ n ≤ L.length ∧ L.take n = M.take n ∧ wr = w.drewN q) (fun i _ => L.length - (intOf i).toNat)
    case atStart => exact ⟨0, 0, rfl, Nat.zero_le _, rfl, rfl⟩
    case round =>
      obtain ⟨n, q, rfl, hn, ht, rfl⟩ := hrel
      have TT := Lib.hid ht
      clear ht
      by_cases hlt : n < L.length
      case neg =>
        have hge : L.length ≤ n := by omega
        have e : decide (L = M) = true := decide_eq_true (by have := TT.out; rw [List.take_of_length_le hge, List.take_of_length_le (by rw [← HL.out]; exact hge)] at this; exact this)
        have E := Lib.hid e
        clear e
        go_wp2
        go_ret
        exact ⟨by rw [E.out]; rfl, _, rfl⟩
      case pos =>
        have hlM := HL.out
        obtain ⟨x, hx⟩ := get_of_lt hlt
        obtain ⟨y, hy⟩ := get_of_lt (show n < M.length by omega)
        obtain ⟨g, o, c', e1, _, h1⟩ := SlAt.node HU.out (by omega)
        obtain ⟨g', o', c2, e2, _, h2⟩ := SlAt.node HV.out (by omega)
        cases e1
        cases e2
        obtain ⟨k1, k2, k3, k4, k5, k6⟩ := h1 n x hx
        obtain ⟨l1, l2, l3, l4, l5, l6⟩ := h2 n y hy
        have X0 := Lib.hid hx
        have Y0 := Lib.hid hy
        have hn0 : (0 : Int) ≤ n := by omega
        have hnl : (n : Int) < L.length := by omega
        have hnm : (n : Int) < M.length := by omega
        clear hx hy h1 h2 hlM
        have hne := ne_node x y
        unfold ndC at hne
        by_cases hxy : x = y
        · rw [decide_eq_true hxy] at hne
          have XY := Lib.hid hxy
          clear hxy
          go_wp2
          go_quiet (fail)
          go_wp2
          go_roundw
          case rel => exact ⟨n + 1, _, by go_num, by omega, by rw [List.take_add_one, List.take_add_one, X0.out, Y0.out, TT.out, XY.out], rfl⟩
          case measure => simp [intOf]; omega
        · rw [decide_eq_false hxy] at hne
          have HNE := Lib.hid hxy
          clear hxy
          have NE : Hid (decide (L = M) = false) := decide_eq_false fun e => by
            have hz := Y0.out
            rw [← e, X0.out] at hz
            exact HNE.out (Option.some.inj hz)
          go_wp2
          go_quiet (fail)
          go_wp2
          go_ret
          exact ⟨by rw [NE.out]; rfl, _, World.drewN_drewN _ _ _⟩
end Go.Proofs.YtlafodnaifghcaaGreat.Tr
namespace Go.Proofs.YtlafodnaifghcaaGreat.Tr
open Go.RowKit Go.Proofs.YtlafodnaifghcaaGreat.St
theorem eq_cases_run (x y : Run) : x = y ∨ (x ≠ y ∧ (x.id.t == y.id.t) = false) ∨ (x ≠ y ∧ (x.id.t == y.id.t) = true ∧ (x.id.s == y.id.s) = false) ∨ (x ≠ y ∧ (x.id.t == y.id.t) = true ∧ (x.id.s == y.id.s) = true ∧ (x.c == y.c) = false) := by
  by_cases h1 : x.id.t = y.id.t
  · by_cases h2 : x.id.s = y.id.s
    · by_cases h3 : x.c = y.c
      · exact .inl (by rw [Run.ext_iff, ID.ext_iff]; exact ⟨⟨h1, h2⟩, h3⟩)
      · exact .inr (.inr (.inr ⟨fun e => h3 (by rw [e]), by simpa using h1, by simpa using h2, by simpa using h3⟩))
    · exact .inr (.inr (.inl ⟨fun e => h2 (by rw [e]), by simpa using h1, by simpa using h2⟩))
  · exact .inr (.inl ⟨fun e => h1 (by rw [e]), by simpa using h1⟩)
set_option maxHeartbeats 2000000 in
theorem lruns_eq {w : World} {u v : Value} {L M : List Run} (hu : SlAt runE w u L) (hv : SlAt runE w v M) (hb : L.length ≤ 1000000000) :
    Calls Tryz.prog 28 #[u, v] w fun e w' => e = .returned (.bool (decide (L = M))) ∧ ∃ q, w' = w.drewN q := by
  obtain ⟨a, c, rfl, _, _⟩ := hu.sl
  obtain ⟨b, d, rfl, _, _⟩ := hv.sl
  by_cases hl : L.length = M.length
  case neg =>
    have hne : decide (L = M) = false := decide_eq_false fun e => hl (by rw [e])
    have hlb : ((L.length : Int) != M.length) = true := by simp; omega
    rw [hne]
    clear hu hv hl hne
    go_enter Tryz.func28, Tryz.ntmps28
    go_wp2
    go_ret
    exact ⟨rfl, 0, rfl⟩
  case pos =>
    have hlb : ((L.length : Int) != M.length) = false := by simp; omega
    have HU := Lib.hid hu
    have HV := Lib.hid hv
    have HL := Lib.hid hl
    clear hu hv hl
    go_enter Tryz.func28, Tryz.ntmps28
    go_wp2
    go_loopw [5] (fun i wr => ∃ n q : Nat, i = .int .i64 n ∧ n ≤ L.length ∧ L.take n = M.take n ∧ wr = w.drewN q) (fun i _ => L.length - (intOf i).toNat)
    case atStart => exact ⟨0, 0, rfl, Nat.zero_le _, rfl, rfl⟩
    case round =>
      obtain ⟨n, q, rfl, hn, ht, rfl⟩ := hrel
      have TT := Lib.hid ht
      clear ht
      by_cases hlt : n < L.length
      case neg =>
        have hge : L.length ≤ n := by omega
        have e : decide (L = M) = true := decide_eq_true (by have := TT.out; rw [List.take_of_length_le hge, List.take_of_length_le (by rw [← HL.out]; exact hge)] at this; exact this)
        have E := Lib.hid e
        clear e
        go_wp2
        go_ret
        exact ⟨by rw [E.out]; rfl, _, rfl⟩
      case pos =>
        have hlM := HL.out
        obtain ⟨x, hx⟩ := get_of_lt hlt
        obtain ⟨y, hy⟩ := get_of_lt (show n < M.length by omega)
        obtain ⟨g, o, c', e1, _, h1⟩ := SlAt.run HU.out (by omega)
        obtain ⟨g', o', c2, e2, _, h2⟩ := SlAt.run HV.out (by omega)
        cases e1
        cases e2
        obtain ⟨k1, k2, k3⟩ := h1 n x hx
        obtain ⟨k4, k5, k6⟩ := h2 n y hy
        have X0 := Lib.hid hx
        have Y0 := Lib.hid hy
        have hn0 : (0 : Int) ≤ n := by omega
        have hnl : (n : Int) < L.length := by omega
        have hnm : (n : Int) < M.length := by omega
        clear hx hy h1 h2 hlM
        rcases eq_cases_run x y with rfl | ⟨hxy, e1⟩ | ⟨hxy, e1, e2⟩ | ⟨hxy, e1, e2, e3⟩
        · go_wp2
          go_quiet (fail)
          go_wp2
          go_roundw
          case rel => exact ⟨n + 1, _, by go_num, by omega, by rw [List.take_add_one, List.take_add_one, X0.out, Y0.out, TT.out], rfl⟩
          case measure => simp [intOf]; omega
        all_goals
          have HNE := Lib.hid hxy
          clear hxy
          have NE : Hid (decide (L = M) = false) := decide_eq_false fun e => by
            have hz := Y0.out
            rw [← e, X0.out] at hz
            exact HNE.out (Option.some.inj hz)
          go_wp2
          go_quiet (fail)
          go_wp2
          go_ret
          exact ⟨by rw [NE.out]; rfl, _, World.drewN_drewN _ _ _⟩
set_option maxHeartbeats 4000000 in
theorem lnodes_eq {w : World} {u v : Value} {L M : List Nd} (hu : SlAt nodeE w u L) (hv : SlAt nodeE w v M) (hb : L.length ≤ 1000000000) :
    Calls Tryz.prog 14 #[u, v] w fun e w' => e = .returned (.bool (decide (L = M))) ∧ ∃ q, w' = w.drewN q := by
  obtain ⟨a, c, rfl, _, _⟩ := hu.sl
  obtain ⟨b, d, rfl, _, _⟩ := hv.sl
  by_cases hl : L.length = M.length
  case neg =>
    have hne : decide (L = M) = false := decide_eq_false fun e => hl (by rw [e])
    have hlb : ((L.length : Int) != M.length) = true := by simp; omega
    rw [hne]
    clear hu hv hl hne
    go_enter Tryz.func14, Tryz.ntmps14
    go_wp2
    go_ret
    exact ⟨rfl, 0, rfl⟩
  case pos =>
    have hlb : ((L.length : Int) != M.length) = false := by simp; omega
    have HU := Lib.hid hu
    have HV := Lib.hid hv
    have HL := Lib.hid hl
    clear hu hv hl
    go_enter Tryz.func14, Tryz.ntmps14
    go_wp2
    go_loopw [5] (fun i wr => ∃ n q : Nat, i = .int .i64 n ∧ n ≤ L.length ∧ L.take n = M.take n ∧ wr = w.drewN q) (fun i _ => L.length - (intOf i).toNat)
    case atStart => exact ⟨0, 0, rfl, Nat.zero_le _, rfl, rfl⟩
    case round =>
      obtain ⟨n, q, rfl, hn, ht, rfl⟩ := hrel
      have TT := Lib.hid ht
      clear ht
      by_cases hlt : n < L.length
      case neg =>
        have hge : L.length ≤ n := by omega
        have e : decide (L = M) = true := decide_eq_true (by have := TT.out; rw [List.take_of_length_le hge, List.take_of_length_le (by rw [← HL.out]; exact hge)] at this; exact this)
        have E := Lib.hid e
        clear e
        go_wp2
        go_ret
        exact ⟨by rw [E.out]; rfl, _, rfl⟩
      case pos =>
        have hlM := HL.out
        obtain ⟨x, hx⟩ := get_of_lt hlt
        obtain ⟨y, hy⟩ := get_of_lt (show n < M.length by omega)
        obtain ⟨g, o, c', e1, _, h1⟩ := SlAt.node HU.out (by omega)
        obtain ⟨g', o', c2, e2, _, h2⟩ := SlAt.node HV.out (by omega)
        cases e1
        cases e2
        obtain ⟨k1, k2, k3, k4, k5, k6⟩ := h1 n x hx
        obtain ⟨l1, l2, l3, l4, l5, l6⟩ := h2 n y hy
        have X0 := Lib.hid hx
        have Y0 := Lib.hid hy
        have hn0 : (0 : Int) ≤ n := by omega
        have hnl : (n : Int) < L.length := by omega
        have hnm : (n : Int) < M.length := by omega
        clear hx hy h1 h2 hlM
        have hne := ne_node x y
        unfold ndC at hne
        by_cases hxy : x = y
        · rw [decide_eq_true hxy] at hne
          have XY := Lib.hid hxy
          clear hxy
          go_wp2
          go_quiet (fail)
          go_wp2
          go_roundw
          case rel => exact ⟨n + 1, _, by go_num, by omega, by rw [List.take_add_one, List.take_add_one, X0.out, Y0.out, TT.out, XY.out], rfl⟩
          case measure => simp [intOf]; omega
        · rw [decide_eq_false hxy] at hne
          have HNE := Lib.hid hxy
          clear hxy
          have NE : Hid (decide (L = M) = false) := decide_eq_false fun e => by
            have hz := Y0.out
            rw [← e, X0.out] at hz
            exact HNE.out (Option.some.inj hz)
          go_wp2
          go_quiet (fail)
          go_wp2
          go_ret
          exact ⟨by rw [NE.out]; rfl, _, World.drewN_drewN _ _ _⟩
theorem id_any (a b : Int) (w : World) : Calls Tryz.prog 20 #[.int .i64 a, .int .i64 b] w fun e w' => e = .returned (.agg #[.int .i64 a, .int .i64 b]) ∧ Grew w w' := by
  go_enter Tryz.func20, Tryz.ntmps20
  go_wp2
  have hb := Blk.new w 37 #[.int .i64 a, .int .i64 b]
  have c0 := hb.cell' (i := 0) (v := .int .i64 a) rfl
  have c1 := hb.cell' (i := 1) (v := .int .i64 b) rfl
  exact bodyPost_ret (v := .agg #[.int .i64 a, .int .i64 b]) (by simp [results, Tryz.results20, go_sem, c0, c1]) rfl ⟨rfl, (Grew.refl w).alloc _⟩
end Go.Proofs.YtlafodnaifghcaaGreat.Tr
namespace Go.Proofs.YtlafodnaifghcaaGreat.Tr
open Go.RowKit Go.Sort Go.Proofs.YtlafodnaifghcaaGreat.St
/-- between two elements: stop, what is wanted, the count, ok, over -/
structure GoJ (w : World) (z q : Nat) (stop : Int) (v : Value) (Ws : List Nd) (i : Nat) (ok over : Bool) (W : World) : Prop where
  kept : Kept (fun _ => False) w W
  bs : Blk W z 3 #[.int .i64 stop]
  bw : Blk W (z + 1) 31 #[v]
  bn : Blk W q 3 #[.int .i64 i]
  bo : Blk W (q + 1) 4 #[.bool ok]
  bv : Blk W (q + 1 + 1) 4 #[.bool over]
  row : SlAt nodeE W v Ws
  far : ∀ b, v.ownBlock = some b → b < q
  lt : w.heap.size ≤ z ∧ z + 1 < q
variable {w W W' : World} {z q : Nat} {stop : Int} {v : Value} {Ws : List Nd} {i : Nat} {ok over : Bool}
theorem GoJ.still (h : GoJ w z q stop v Ws i ok over W) (hk : Kept (fun _ => False) W W') : GoJ w z q stop v Ws i ok over W' :=
  ⟨h.kept.trans hk fun _ _ h => h, hk.blk (fun h => h) h.bs, hk.blk (fun h => h) h.bw, hk.blk (fun h => h) h.bn, hk.blk (fun h => h) h.bo, hk.blk (fun h => h) h.bv, h.row.kept hk, h.far, h.lt⟩
theorem GoJ.turn {u1 u2 u3 : Value} {i' : Nat} {ok' over' : Bool} (h : GoJ w z q stop v Ws i ok over W) (e1 : u1 = .bool ok') (e2 : u2 = .int .i64 (i' : Int)) (e3 : u3 = .bool over') :
    GoJ w z q stop v Ws i' ok' over' (((W.setCell ⟨q + 1, 0, none⟩ u1).setCell ⟨q, 0, none⟩ u2).setCell ⟨q + 1 + 1, 0, none⟩ u3) := by
  subst e1 e2 e3
  have hk : Kept (fun b => q ≤ b) W (((W.setCell ⟨q + 1, 0, none⟩ (.bool ok')).setCell ⟨q, 0, none⟩ (.int .i64 (i' : Int))).setCell ⟨q + 1 + 1, 0, none⟩ (.bool over')) :=
    (((Kept.refl _ _).setCell (p := ⟨q + 1, 0, none⟩) (fun _ => Nat.le_succ q) _).setCell (p := ⟨q, 0, none⟩) (fun _ => Nat.le_refl q) _).setCell (p := ⟨q + 1 + 1, 0, none⟩) (fun _ => by show q ≤ q + 1 + 1; omega) _
  have hl := h.lt
  have n1 : ¬ q = q + 1 := by omega
  have n2 : ¬ q = q + 1 + 1 := by omega
  have n3 : ¬ q + 1 = q + 1 + 1 := by omega
  have n4 : ¬ q + 1 = q := by omega
  have n5 : ¬ q + 1 + 1 = q + 1 := by omega
  have n6 : ¬ q + 1 + 1 = q := by omega
  exact { kept := h.kept.trans hk fun b hb h9 => by omega
          bs := hk.blk (fun h9 => by omega) h.bs
          bw := hk.blk (fun h9 => by omega) h.bw
          bn := by
            have h9 := ((h.bn.far (p := ⟨q + 1, 0, none⟩) n1 (.bool ok')).set_ 0 (.int .i64 (i' : Int))).far (p := ⟨q + 1 + 1, 0, none⟩) n2 (.bool over')
            simpa using h9
          bo := by
            have h9 := ((h.bo.set_ 0 (.bool ok')).far (p := ⟨q, 0, none⟩) n4 (.int .i64 (i' : Int))).far (p := ⟨q + 1 + 1, 0, none⟩) n3 (.bool over')
            simpa using h9
          bv := by
            have h9 := ((h.bv.far (p := ⟨q + 1, 0, none⟩) n5 (.bool ok')).far (p := ⟨q, 0, none⟩) n6 (.int .i64 (i' : Int))).set_ 0 (.bool over')
            simpa using h9
          row := h.row.keep hk fun b hb _ h9 => by have := h.far b hb; omega
          far := h.far
          lt := h.lt }
set_option maxRecDepth 100000 in
set_option maxHeartbeats 8000000 in
theorem goes1_any {x : Nd} (h : GoJ w z q stop v Ws i true false W) (hx : Ws[i]? = some x) (hlen : Ws.length ≤ 900000) :
    Calls Tryz.prog 53 #[.agg #[.int .i64 x.id.t, .int .i64 x.id.s], .int .i32 x.rune, .pointer (some ⟨q + 1, 0, none⟩), .pointer (some ⟨q + 1 + 1, 0, none⟩), .pointer (some ⟨q, 0, none⟩), .pointer (some ⟨z + 1, 0, none⟩), .pointer (some ⟨z, 0, none⟩)] W
      fun e w' => e = .returned (.bool (!decide (((i + 1 : Nat) : Int) = stop))) ∧ GoJ w z q stop v Ws (i + 1) true (decide (((i + 1 : Nat) : Int) = stop)) w' := by
  have hlt := (List.getElem?_eq_some_iff.1 hx).1
  have hK := h.still ((Kept.refl _ W).alloc (.cells #[.int .i64 x.id.t, .int .i64 x.id.s] 37))
  have hzl : q + 1 + 1 < W.heap.size := h.bv.lt
  have hB := Blk.new W 37 #[.int .i64 x.id.t, .int .i64 x.id.s]
  obtain ⟨y, hy⟩ : ∃ y, W.heap.size = y := ⟨_, rfl⟩
  rw [hy] at hB hzl
  obtain ⟨W1, hW1⟩ : ∃ W1, W.alloc (.cells #[.int .i64 x.id.t, .int .i64 x.id.s] 37) = W1 := ⟨_, rfl⟩
  rw [hW1] at hK hB
  obtain ⟨bs, hbs⟩ : ∃ b, ((i : Int) + 1 == stop) = b := ⟨_, rfl⟩
  have hd : decide (((i + 1 : Nat) : Int) = stop) = bs := by
    rw [← hbs, Bool.eq_iff_iff]
    push_cast
    simp
  rw [hd]
  clear hd
  have KJ := Lib.hid hK
  have HB := Lib.hid hB
  have HX := Lib.hid hx
  clear h hK hB hx
  go_enter Tryz.func53, Tryz.ntmps53
  go_upto_region 1 with fail
  clear hW1 hy
  have c0 := KJ.out.bs.cell' (i := 0) (v := .int .i64 stop) rfl
  have c1 := KJ.out.bw.cell' (i := 0) (v := v) rfl
  have c2 := KJ.out.bn.cell' (i := 0) (v := .int .i64 i) rfl
  have c3 := KJ.out.bo.cell' (i := 0) (v := .bool true) rfl
  have c4 := KJ.out.bv.cell' (i := 0) (v := .bool false) rfl
  have f2 := KJ.out.bn.frozen 0
  have f3 := KJ.out.bo.frozen 0
  have f4 := KJ.out.bv.frozen 0
  have d0 := HB.out.cell' (i := 0) (v := .int .i64 x.id.t) rfl
  have d1 := HB.out.cell' (i := 1) (v := .int .i64 x.id.s) rfl
  obtain ⟨g, o, c', hv, _, hc⟩ := SlAt.node KJ.out.row (by omega)
  obtain ⟨r0, r1, r2, r3, r4, r5⟩ := hc i x HX.out
  have hv2 := hv
  rw [hv] at c1
  have i0 : (0 : Int) ≤ i := by omega
  have i1 : (i : Int) < Ws.length := by omega
  have hwr : IntKind.i64.wrap ((i : Int) + 1) = (i : Int) + 1 := IntWalk.i64_in _ (by omega)
  have n1 : ¬ q = q + 1 := by omega
  have n2 : ¬ q = q + 1 + 1 := by omega
  have n3 : ¬ q + 1 = q + 1 + 1 := by omega
  have n4 : ¬ q + 1 = q := by omega
  have n5 : ¬ q + 1 + 1 = q + 1 := by omega
  have n6 : ¬ q + 1 + 1 = q := by omega
  have n7 : ¬ z = q := by have := KJ.out.lt; omega
  have n8 : ¬ z = q + 1 := by have := KJ.out.lt; omega
  have n9 : ¬ z = q + 1 + 1 := by have := KJ.out.lt; omega
  have HV := Lib.hid hv2
  have IL := Lib.hid hlt
  clear hc hv hv2 hlt hzl
  go_region
  go_wp2
  go_ret
  have h9 := (KJ.out.still ((Kept.refl (fun _ => False) W1).drew)).turn (u1 := .bool true) (u2 := .int .i64 ((i : Int) + 1)) (u3 := .bool bs) (i' := i + 1) (ok' := true) (over' := bs) rfl (by push_cast; rfl) rfl
  exact ⟨rfl, h9⟩
end Go.Proofs.YtlafodnaifghcaaGreat.Tr
namespace Go.Proofs.YtlafodnaifghcaaGreat.Tr
open Go.RowKit Go.Sort Go.Proofs.YtlafodnaifghcaaGreat.St
theorem step_append_goes {P : Program} {α : Type} (E : Enc α) {ops : Array Oper} {o : Oper} {a : Act} {w : World} {K : Act → World → Prop} {Q : Exit → Act → World → Prop} {G : Prop} (hgd : o.guard = none) (s y : Operand) (t : TypeId)
    (hop : o.op = Op.call { callee := Callee.builtin Builtin.append, args := #[s, y], argTypes := #[t, t] }) (base : Nat) (e : TypeId) (z : Value) (bytes : Nat) (ht : P.underlying t = some (.slice e))
    (hinfo : (P.info? e).map (fun i => (i.zero, i.size, i.bytes)) = some (some z, E.k, bytes)) (hzs : z.cells.size = E.k) (hb4 : bytes ≤ 4096) {v : Value} {D : List α} {x : α} {ad : Addr} {c : Nat} (hs : a.eval s = v) (hx : a.eval y = .slice (some ad) 1 c)
    (hown : w.ownsRow base e E.k v D.length (E.flat D)) (hL : SlAt E w (.slice (some ad) 1 c) [x]) (h63 : D.length ≤ 1000000) (hbase : base ≤ w.heap.size)
    (hK : ∀ v' w', w'.ownsRow base e E.k v' (D.length + 1) (E.flat (D ++ [x])) → Grow1 w w' v v' → K (a.put o.dst v') w') : if Region.wanted o (yielded ops a.tmps) = true then Oper.wp P o a w K Q else G := by
  have hw : Region.wanted o (yielded ops a.tmps) = true := by simp [Region.wanted, hgd]
  rw [if_pos hw]
  obtain ⟨v', w', hr, h2, h3⟩ := run_append_keeps (P := P) E t o.type e base z bytes ht hinfo hzs hb4 hown hL h63 hbase
  unfold Oper.wp
  simp [execOp, hop, resolve, invoke, builtin, hs, hx, hr, Result.andThen]
  exact hK v' w' h2 h3
theorem grow_goes {w w' : World} {v v' : Value} (h : Grow1 w w' v v') : Kept (fun b => v.ownBlock = some b) w w' := by
  rcases h with ⟨_, h⟩ | ⟨_, h⟩
  · exact h
  · exact h.mono (fun _ _ h => h.elim)
theorem shL_snoc (A : List Nd) (m : Nd) : shL (A ++ [m]) = if m.st = 1 then shL A ++ [m] else shL A := by
  unfold shL
  rw [List.filter_append]
  by_cases h : m.st = 1
  · simp [h]
  · simp [h]
set_option maxRecDepth 100000 in
set_option maxHeartbeats 8000000 in
theorem goes_any {w : World} {bl : Nat} {v lv : Value} {M : List Nd} (hbl : Blk w bl 31 #[v]) (hv : SlAt nodeE w v (shL M)) (hl : SlAt nodeE w lv M) (hlen : M.length ≤ 900000) (stop : Int) :
    Calls Tryz.prog 16 #[.func (.func 52) #[] #[.pointer (some ⟨bl, 0, none⟩)], lv, .int .i64 stop] w fun e w' => e = .returned (.bool true) ∧ Kept (fun _ => False) w w' := by
  obtain ⟨la, lc, rfl, _, _⟩ := hl.sl
  have HB := Lib.hid hbl
  have HV := Lib.hid hv
  have HL := Lib.hid hl
  have HN := Lib.hid hlen
  have hS := shL_le M
  clear hbl hv hl
  go_enter Tryz.func16, Tryz.ntmps16
  go_upto_region 2 with fail
  have hs0 := (Blk.new w 3 #[.int .i64 stop]).alloc (.cells #[.slice none 0 0] 31)
  have hw0 := Blk.new (w.alloc (.cells #[.int .i64 stop] 3)) 31 #[.slice none 0 0]
  rw [World.size_alloc] at hw0
  have hk0 : Kept (fun _ => False) w ((w.alloc (.cells #[.int .i64 stop] 3)).alloc (.cells #[.slice none 0 0] 31)) := ((Kept.refl _ _).alloc _).alloc _
  have S0 := Lib.hid hs0
  have W0 := Lib.hid hw0
  have K0 := Lib.hid hk0
  clear hs0 hw0 hk0
  go_wp2_with fail
  go_loopw [8] (fun iv wr => ∃ (n : Nat) (u : Value), iv = .int .i64 n ∧ n ≤ M.length ∧ Kept (fun _ => False) w wr ∧ Blk wr w.heap.size 3 #[.int .i64 stop] ∧ Blk wr (w.heap.size + 1) 31 #[u] ∧ wr.ownsRow (w.heap.size + 2) 45 6 u (shL (M.take n)).length (nodeE.flat (shL (M.take n)))) (fun iv _ => M.length - (intOf iv).toNat)
  case atStart => exact ⟨0, _, rfl, Nat.zero_le _, K0.out, S0.out, W0.out, World.ownsRow_nil ..⟩
  case round =>
    obtain ⟨n, u, rfl, hn, hk, hs, hu, ho⟩ := hrel
    have hn0 : (0 : Int) ≤ n := by omega
    by_cases hlt : n < M.length
    case neg =>
      have hn9 : n = M.length := by omega
      subst hn9
      rw [List.take_length] at ho
      obtain ⟨ua, uc, hue⟩ := owns_sl ho
      subst hue
      have hnl : ¬ ((M.length : Nat) : Int) < M.length := by omega
      obtain ⟨q, hq⟩ : ∃ q, wr.heap.size = q := ⟨_, rfl⟩
      have hzq : w.heap.size + 1 < q := by rw [← hq]; exact hu.lt
      have hJ : GoJ w w.heap.size q stop (.slice ua (shL M).length uc) (shL M) 0 true false (((wr.alloc (.cells #[.int .i64 0] 3)).alloc (.cells #[.bool true] 4)).alloc (.cells #[.bool false] 4)) := by
        have k3 : Kept (fun _ => False) wr (((wr.alloc (.cells #[.int .i64 0] 3)).alloc (.cells #[.bool true] 4)).alloc (.cells #[.bool false] 4)) := (((Kept.refl _ _).alloc _).alloc _).alloc _
        have b1 := ((Blk.new wr 3 #[.int .i64 0]).alloc (.cells #[.bool true] 4)).alloc (.cells #[.bool false] 4)
        have b2 := (Blk.new (wr.alloc (.cells #[.int .i64 0] 3)) 4 #[.bool true]).alloc (.cells #[.bool false] 4)
        have b3 := Blk.new ((wr.alloc (.cells #[.int .i64 0] 3)).alloc (.cells #[.bool true] 4)) 4 #[.bool false]
        simp only [World.size_alloc, hq] at b1 b2 b3
        exact ⟨hk.trans k3 fun _ _ h => h, k3.blk (fun h => h) hs, k3.blk (fun h => h) hu, b1, b2, b3, (owns_slAt ho).kept k3, fun b hb => by have := (owns_lt ho b hb).2; omega, Nat.le_refl _, hzq⟩
      have GJ0 := Lib.hid hJ
      have HZ := Lib.hid hzq
      clear hk hs hu ho hJ hn
      have IT : Hid (Calls Tryz.prog 52 #[.func (.func 53) #[] #[.pointer (some ⟨q + 1, 0, none⟩), .pointer (some ⟨q + 1 + 1, 0, none⟩), .pointer (some ⟨q, 0, none⟩), .pointer (some ⟨w.heap.size + 1, 0, none⟩), .pointer (some ⟨w.heap.size, 0, none⟩)], .pointer (some ⟨bl, 0, none⟩)] (((wr.alloc (.cells #[.int .i64 0] 3)).alloc (.cells #[.bool true] 4)).alloc (.cells #[.bool false] 4)) fun e w' => e = .returned (.tuple #[]) ∧ (GoJ w w.heap.size q stop (.slice ua (shL M).length uc) (shL M) (shL M).length true false w' ∨ ∃ j : Nat, GoJ w w.heap.size q stop (.slice ua (shL M).length uc) (shL M) j true true w' ∧ (j : Int) = stop ∧ 0 < j)) := Lib.hid (by
        refine allp_any (L := shL M) (pl := bl) (v := v) (by have := HN.out; omega) 53 _ (fun i W => GoJ w w.heap.size q stop (.slice ua (shL M).length uc) (shL M) i true false W) (fun W => ∃ j : Nat, GoJ w w.heap.size q stop (.slice ua (shL M).length uc) (shL M) j true true W ∧ (j : Int) = stop ∧ 0 < j) ?_ ?_ ?_ ?_ GJ0.out
        · intro i W h
          exact ⟨(h.kept.blk (fun h => h) HB.out).cell' rfl, HV.out.kept h.kept⟩
        · intro i W W' h hk
          exact h.still hk
        · intro i x W hx h
          refine (goes1_any h hx (by have := HN.out; omega)).mono ?_
          rintro e w' ⟨rfl, h9⟩
          refine ⟨_, rfl, fun hb => ?_, fun hb => ?_⟩
          · have hd : decide (((i + 1 : Nat) : Int) = stop) = false := by simpa using hb
            rw [hd] at h9
            exact h9
          · have hd : decide (((i + 1 : Nat) : Int) = stop) = true := by simpa using hb
            rw [hd] at h9
            exact ⟨i + 1, h9, of_decide_eq_true hd, Nat.succ_pos _⟩
        · exact enters_of Tryz.func53 (by kernel_rfl) rfl)
      obtain ⟨sl, hsl⟩ : ∃ sl, (shL M).length = sl := ⟨_, rfl⟩
      rw [hsl] at IT
      have SL := Lib.hid hsl
      clear hsl GJ0 hS
      go_upto_region 10 with fail
      go_upto_region 11 with (refine IT.out.mono ?_; rintro e w4 ⟨rfl, h4⟩)
      rcases h4 with h4 | ⟨j, h4, hj1, hj2⟩
      · have c0 := h4.bs.cell' (i := 0) (v := .int .i64 stop) rfl
        have c1 := h4.bw.cell' (i := 0) (v := .slice ua sl uc) rfl
        have c2 := h4.bn.cell' (i := 0) (v := .int .i64 sl) rfl
        have c3 := h4.bo.cell' (i := 0) (v := .bool true) rfl
        have K4 := Lib.hid h4.kept
        clear h4
        obtain ⟨bs, hbs⟩ : ∃ b, ((sl : Int) == stop) = b := ⟨_, rfl⟩
        by_cases hp : 0 < stop
        · cases bs
          · go_wp2_with fail
            go_ret
            exact ⟨rfl, K4.out⟩
          · go_wp2_with fail
            go_ret
            exact ⟨rfl, K4.out⟩
        · cases bs
          · go_wp2_with fail
            go_ret
            exact ⟨rfl, K4.out⟩
          · go_wp2_with fail
            go_ret
            exact ⟨rfl, K4.out⟩
      · have c0 := h4.bs.cell' (i := 0) (v := .int .i64 stop) rfl
        have c1 := h4.bw.cell' (i := 0) (v := .slice ua sl uc) rfl
        have c2 := h4.bn.cell' (i := 0) (v := .int .i64 j) rfl
        have c3 := h4.bo.cell' (i := 0) (v := .bool true) rfl
        have K4 := Lib.hid h4.kept
        clear h4
        subst hj1
        have hp : (0 : Int) < j := by omega
        go_wp2_with fail
        go_ret
        exact ⟨rfl, K4.out⟩
    case pos =>
      obtain ⟨x, hx⟩ := get_of_lt hlt
      obtain ⟨g, o, c', e1, _, h1⟩ := SlAt.node (HL.out.kept hk) (by omega)
      cases e1
      obtain ⟨r0, r1, r2, r3, r4, r5⟩ := h1 n x hx
      have hnl : (n : Int) < M.length := by omega
      have e1 : IntKind.i64.wrap ((n : Int) + 1) = (n : Int) + 1 := IntWalk.i64_in _ (by omega)
      have htk : M.take (n + 1) = M.take n ++ [x] := by rw [List.take_add_one, hx]; rfl
      have TK := Lib.hid htk
      have HK := Lib.hid hk
      have HS := Lib.hid hs
      have HU := Lib.hid hu
      have HO := Lib.hid ho
      by_cases hst : x.st = 1
      case neg =>
        have q6 : (x.st == 1) = false := by simpa using hst
        have E9 : Hid (shL (M.take (n + 1)) = shL (M.take n)) := Lib.hid (by rw [htk, shL_snoc, if_neg hst])
        clear htk hx h1 hk hs hu ho hst
        go_wp2_with fail
        go_roundw
        case rel => exact ⟨n + 1, u, by go_num, by omega, HK.out, HS.out, HU.out, by rw [E9.out]; exact HO.out⟩
        case measure => simp [intOf]; omega
      case pos =>
        have E9 : Hid (shL (M.take (n + 1)) = shL (M.take n) ++ [x]) := Lib.hid (by rw [htk, shL_snoc, if_pos hst])
        obtain ⟨xi, xr, xc, xs⟩ := x
        simp only at hst r0 r1 r2 r3 r4 r5
        subst hst
        obtain ⟨ua, uc, hue⟩ := owns_sl ho
        subst hue
        have cu := hu.cell' (i := 0) (v := .slice ua (shL (M.take n)).length uc) rfl
        have hsz := hu.lt
        obtain ⟨dl, hdl⟩ : ∃ dl, (shL (M.take n)).length = dl := ⟨_, rfl⟩
        have hdb : dl ≤ 1000000 := by have := shL_le (M.take n); have := List.length_take_le n M; have := HN.out; omega
        have hka : Kept (fun _ => False) wr ((wr.alloc (.cells #[.int .i64 xi.t, .int .i64 xi.s, .int .i64 xr.t, .int .i64 xr.s, .int .i32 xc, .int .i64 1] 45)).drew) := ((Kept.refl _ _).alloc _).drew
        have hlit : SlAt nodeE ((wr.alloc (.cells #[.int .i64 xi.t, .int .i64 xi.s, .int .i64 xr.t, .int .i64 xr.s, .int .i32 xc, .int .i64 1] 45)).drew) (.slice (some ⟨wr.heap.size, 0, none⟩) 1 1) [(⟨xi, xr, xc, 1⟩ : Nd)] := (SlAt.lit [(⟨xi, xr, xc, 1⟩ : Nd)] _ rfl (by simp [maxLen])).kept ((Kept.refl (fun _ => False) _).drew)
        have hown := owns_keep ho hka (fun _ _ h => h)
        have hua := hka.blk (fun h => h) hu
        rw [hdl] at cu hown hua
        have DL := Lib.hid hdl
        have LIT := Lib.hid hlit
        have OWN := Lib.hid hown
        have UA := Lib.hid hua
        have KA := Lib.hid hka
        rw [hdl] at HU HO
        clear htk hx h1 hk hs hu ho hdl hlit hown hua hka
        go_wp2_with fail
        go_region_law (refine step_append_goes nodeE rfl (.tmp 24) (.tmp 29) 31 rfl (w.heap.size + 2) 45 (.agg #[.int .i64 0, .int .i64 0, .int .i64 0, .int .i64 0, .int .i32 0, .int .i64 0]) 48 Tryz.underlying31 info_node rfl (by decide) (v := .slice ua dl uc) (D := shL (M.take n)) (x := ⟨xi, xr, xc, 1⟩) rfl rfl (by rw [DL.out]; exact OWN.out) LIT.out (by rw [DL.out]; omega) (by simp; omega) ?_; intro v2 w2 ho2 hg2; rw [DL.out] at ho2; (obtain ⟨ua2, uc2, rfl⟩ := owns_sl ho2); have hbn : ∀ b, (Value.slice ua dl uc).ownBlock = some b → w.heap.size + 2 ≤ b := owns_new OWN.out; have KG := Lib.hid ((HK.out.trans KA.out fun _ _ h => h).over (grow_goes hg2) fun b hb => Nat.le_trans (Nat.le_add_right _ 2) (hbn b hb)); have hs3 := (grow_goes hg2).blk (fun h => by have := hbn _ h; omega) (KA.out.blk (fun h => h) HS.out); have hu3 := (grow_goes hg2).blk (fun h => by have := hbn _ h; omega) UA.out; have x7 := hu3.cell' (i := 0) (v := .slice ua dl uc) rfl; have f7 := hu3.frozen 0; have S3 := Lib.hid hs3; have U3 := Lib.hid hu3; have O3 := Lib.hid ho2; clear hbn hs3 hu3 ho2 hg2)
        all_goals
          go_wp2_with fail
          focus
            refine ⟨⟨n + 1, _, by go_num, by omega, KG.out.trans (kept_cell w2 (w.heap.size + 1) (.slice ua2 (dl + 1) uc2)) (fun b hb h => by omega), S3.out.far (p := ⟨w.heap.size + 1, 0, none⟩) (by show ¬ w.heap.size = w.heap.size + 1; omega) _, by have h9 := U3.out.set_ 0 (.slice ua2 (dl + 1) uc2); simpa using h9, ?_⟩, by simp [intOf]; omega⟩
            rw [E9.out, show (shL (M.take n) ++ [(⟨xi, xr, xc, 1⟩ : Nd)]).length = dl + 1 by rw [List.length_append, DL.out]; rfl]
            exact owns_keep O3.out (kept_cell w2 (w.heap.size + 1) _) (fun b hb h => by have h8 := owns_new O3.out b hb; omega)
end Go.Proofs.YtlafodnaifghcaaGreat.Tr
