/- slices.Equal over rows of nodes. The laws' own helpers: two rows of runs, of nodes; an identifier. hearsaylaw11.laid, walked. -/
import Derived.Test.YtlafodnaifghcaaK8
import Derived.Test.YtlafodnaifghcaaK22
import Derived.Test.YtlafodnaifghcaaK25
import Derived.Test.YtlafodnaifghcaaK20
import Derived.Test.YtlafodnaifghcaaK6
import Derived.Deep.CutBlock
import Derived.Deep.DeepCutAuto
namespace Go.Proofs.Ytlafodnaifghcaa.Tr
open Go.RowKit Go.Proofs.Ytlafodnaifghcaa.St
theorem eq_node (x y : Nd) : decide (x = y) = ((x.id.t == y.id.t && x.id.s == y.id.s) && (x.ref.t == y.ref.t && x.ref.s == y.ref.s) && x.rune == y.rune && x.st == y.st) := by
  rw [Bool.eq_iff_iff]
  simp [Nd.ext_iff, ID.ext_iff, and_assoc]
theorem ne_node (x y : Nd) (w : World) : (binOp .neq 59 (.agg (ndC x).toArray) (.agg (ndC y).toArray)).run Try.prog w = .ok (.bool (!decide (x = y))) w := by
  rw [eq_node]
  show (binOp .neq 59 (.agg #[.int .i64 x.id.t, .int .i64 x.id.s, .int .i64 x.ref.t, .int .i64 x.ref.s, .int .i32 x.rune, .int .i64 x.st]) (.agg #[.int .i64 y.id.t, .int .i64 y.id.s, .int .i64 y.ref.t, .int .i64 y.ref.s, .int .i32 y.rune, .int .i64 y.st])).run Try.prog w = _
  cases h1 : x.id.t == y.id.t
  · go_simp
  cases h2 : x.id.s == y.id.s
  · go_simp
  cases h3 : x.ref.t == y.ref.t
  · go_simp
  cases h4 : x.ref.s == y.ref.s
  · go_simp
  cases h5 : x.rune == y.rune
  · go_simp
  cases h6 : x.st == y.st
  · go_simp
  · go_simp
set_option maxHeartbeats 4000000 in
theorem nodes_eq {w : World} {u v : Value} {L M : List Nd} (hu : SlAt nodeE w u L) (hv : SlAt nodeE w v M) (hb : L.length ≤ 1000000000) :
    Calls Try.prog 54 #[u, v] w fun e w' => e = .returned (.bool (decide (L = M))) ∧ ∃ q, w' = w.drewN q := by
  obtain ⟨a, c, rfl, _, _⟩ := hu.sl
  obtain ⟨b, d, rfl, _, _⟩ := hv.sl
  by_cases hl : L.length = M.length
  case neg =>
    have hne : decide (L = M) = false := decide_eq_false fun e => hl (by rw [e])
    have hlb : ((L.length : Int) != M.length) = true := by simp; omega
    rw [hne]
    clear hu hv hl hne
    go_enter Try.func54, Try.ntmps54
    go_wp2
    go_ret
    exact ⟨rfl, 0, rfl⟩
  case pos =>
    have hlb : ((L.length : Int) != M.length) = false := by simp; omega
    have HU := Lib.hid hu
    have HV := Lib.hid hv
    have HL := Lib.hid hl
    clear hu hv hl
    go_enter Try.func54, Try.ntmps54
    go_wp2
    go_loopw [13] (fun i wr => ∃ n q : Nat, i = .int .i64 n ∧ n ≤ L.length ∧ L.take n = M.take n ∧ wr = w.drewN q) (fun i _ => L.length - (intOf i).toNat)
    case atStart => exact ⟨0, 0, rfl, Nat.zero_le _, rfl, rfl⟩
    case round =>
      obtain ⟨n, q, rfl, hn, ht, rfl⟩ := hrel
      have TT := Lib.hid ht
      clear ht
      by_cases hlt : n < L.length
      case neg =>
        have hge : L.length ≤ n := by omega
        have e : decide (L = M) = true := decide_eq_true (by have := TT.out; rw [List.take_of_length_le hge, List.take_of_length_le (by rw [← HL.out]; exact hge)] at this; exact this)
        have E := Lib.hid e
        clear e
        go_wp2
        go_ret
        exact ⟨by rw [E.out]; rfl, _, rfl⟩
      case pos =>
        have hlM := HL.out
        obtain ⟨x, hx⟩ := get_of_lt hlt
        obtain ⟨y, hy⟩ := get_of_lt (show n < M.length by omega)
        obtain ⟨g, o, c', e1, _, h1⟩ := SlAt.node HU.out (by omega)
        obtain ⟨g', o', c2, e2, _, h2⟩ := SlAt.node HV.out (by omega)
        cases e1
        cases e2
        obtain ⟨k1, k2, k3, k4, k5, k6⟩ := h1 n x hx
        obtain ⟨l1, l2, l3, l4, l5, l6⟩ := h2 n y hy
        have X0 := Lib.hid hx
        have Y0 := Lib.hid hy
        have hn0 : (0 : Int) ≤ n := by omega
        have hnl : (n : Int) < L.length := by omega
        have hnm : (n : Int) < M.length := by omega
        clear hx hy h1 h2 hlM
        have hne := ne_node x y
        unfold ndC at hne
        by_cases hxy : x = y
        · rw [decide_eq_true hxy] at hne
          have XY := Lib.hid hxy
          clear hxy
          go_wp2
          go_quiet (fail)
          go_wp2
          go_roundw
          case rel => exact ⟨n + 1, _, by go_num, by omega, by rw [List.take_add_one, List.take_add_one, X0.out, Y0.out, TT.out, XY.out], rfl⟩
          case measure => simp [intOf]; omega
        · rw [decide_eq_false hxy] at hne
          have HNE := Lib.hid hxy
          clear hxy
          have NE : Hid (decide (L = M) = false) := decide_eq_false fun e => by
            have hz := Y0.out
            rw [← e, X0.out] at hz
            exact HNE.out (Option.some.inj hz)
          go_wp2
          go_quiet (fail)
          go_wp2
          go_ret
          exact ⟨by rw [NE.out]; rfl, _, World.drewN_drewN _ _ _⟩
end Go.Proofs.Ytlafodnaifghcaa.Tr
namespace Go.Proofs.Ytlafodnaifghcaa.Tr
open Go.RowKit Go.Proofs.Ytlafodnaifghcaa.St
theorem eq_cases_run (x y : Run) : x = y ∨ (x ≠ y ∧ (x.id.t == y.id.t) = false) ∨ (x ≠ y ∧ (x.id.t == y.id.t) = true ∧ (x.id.s == y.id.s) = false) ∨ (x ≠ y ∧ (x.id.t == y.id.t) = true ∧ (x.id.s == y.id.s) = true ∧ (x.c == y.c) = false) := by
  by_cases h1 : x.id.t = y.id.t
  · by_cases h2 : x.id.s = y.id.s
    · by_cases h3 : x.c = y.c
      · exact .inl (by rw [Run.ext_iff, ID.ext_iff]; exact ⟨⟨h1, h2⟩, h3⟩)
      · exact .inr (.inr (.inr ⟨fun e => h3 (by rw [e]), by simpa using h1, by simpa using h2, by simpa using h3⟩))
    · exact .inr (.inr (.inl ⟨fun e => h2 (by rw [e]), by simpa using h1, by simpa using h2⟩))
  · exact .inr (.inl ⟨fun e => h1 (by rw [e]), by simpa using h1⟩)
set_option maxHeartbeats 2000000 in
theorem lruns_eq {w : World} {u v : Value} {L M : List Run} (hu : SlAt runE w u L) (hv : SlAt runE w v M) (hb : L.length ≤ 1000000000) :
    Calls Try.prog 25 #[u, v] w fun e w' => e = .returned (.bool (decide (L = M))) ∧ ∃ q, w' = w.drewN q := by
  obtain ⟨a, c, rfl, _, _⟩ := hu.sl
  obtain ⟨b, d, rfl, _, _⟩ := hv.sl
  by_cases hl : L.length = M.length
  case neg =>
    have hne : decide (L = M) = false := decide_eq_false fun e => hl (by rw [e])
    have hlb : ((L.length : Int) != M.length) = true := by simp; omega
    rw [hne]
    clear hu hv hl hne
    go_enter Try.func25, Try.ntmps25
    go_wp2
    go_ret
    exact ⟨rfl, 0, rfl⟩
  case pos =>
    have hlb : ((L.length : Int) != M.length) = false := by simp; omega
    have HU := Lib.hid hu
    have HV := Lib.hid hv
    have HL := Lib.hid hl
    clear hu hv hl
    go_enter Try.func25, Try.ntmps25
    go_wp2
    go_loopw [5] (fun i wr => ∃ n q : Nat, i = .int .i64 n ∧ n ≤ L.length ∧ L.take n = M.take n ∧ wr = w.drewN q) (fun i _ => L.length - (intOf i).toNat)
    case atStart => exact ⟨0, 0, rfl, Nat.zero_le _, rfl, rfl⟩
    case round =>
      obtain ⟨n, q, rfl, hn, ht, rfl⟩ := hrel
      have TT := Lib.hid ht
      clear ht
      by_cases hlt : n < L.length
      case neg =>
        have hge : L.length ≤ n := by omega
        have e : decide (L = M) = true := decide_eq_true (by have := TT.out; rw [List.take_of_length_le hge, List.take_of_length_le (by rw [← HL.out]; exact hge)] at this; exact this)
        have E := Lib.hid e
        clear e
        go_wp2
        go_ret
        exact ⟨by rw [E.out]; rfl, _, rfl⟩
      case pos =>
        have hlM := HL.out
        obtain ⟨x, hx⟩ := get_of_lt hlt
        obtain ⟨y, hy⟩ := get_of_lt (show n < M.length by omega)
        obtain ⟨g, o, c', e1, _, h1⟩ := SlAt.run HU.out (by omega)
        obtain ⟨g', o', c2, e2, _, h2⟩ := SlAt.run HV.out (by omega)
        cases e1
        cases e2
        obtain ⟨k1, k2, k3⟩ := h1 n x hx
        obtain ⟨k4, k5, k6⟩ := h2 n y hy
        have X0 := Lib.hid hx
        have Y0 := Lib.hid hy
        have hn0 : (0 : Int) ≤ n := by omega
        have hnl : (n : Int) < L.length := by omega
        have hnm : (n : Int) < M.length := by omega
        clear hx hy h1 h2 hlM
        rcases eq_cases_run x y with rfl | ⟨hxy, e1⟩ | ⟨hxy, e1, e2⟩ | ⟨hxy, e1, e2, e3⟩
        · go_wp2
          go_quiet (fail)
          go_wp2
          go_roundw
          case rel => exact ⟨n + 1, _, by go_num, by omega, by rw [List.take_add_one, List.take_add_one, X0.out, Y0.out, TT.out], rfl⟩
          case measure => simp [intOf]; omega
        all_goals
          have HNE := Lib.hid hxy
          clear hxy
          have NE : Hid (decide (L = M) = false) := decide_eq_false fun e => by
            have hz := Y0.out
            rw [← e, X0.out] at hz
            exact HNE.out (Option.some.inj hz)
          go_wp2
          go_quiet (fail)
          go_wp2
          go_ret
          exact ⟨by rw [NE.out]; rfl, _, World.drewN_drewN _ _ _⟩
set_option maxHeartbeats 4000000 in
theorem lnodes_eq {w : World} {u v : Value} {L M : List Nd} (hu : SlAt nodeE w u L) (hv : SlAt nodeE w v M) (hb : L.length ≤ 1000000000) :
    Calls Try.prog 24 #[u, v] w fun e w' => e = .returned (.bool (decide (L = M))) ∧ ∃ q, w' = w.drewN q := by
  obtain ⟨a, c, rfl, _, _⟩ := hu.sl
  obtain ⟨b, d, rfl, _, _⟩ := hv.sl
  by_cases hl : L.length = M.length
  case neg =>
    have hne : decide (L = M) = false := decide_eq_false fun e => hl (by rw [e])
    have hlb : ((L.length : Int) != M.length) = true := by simp; omega
    rw [hne]
    clear hu hv hl hne
    go_enter Try.func24, Try.ntmps24
    go_wp2
    go_ret
    exact ⟨rfl, 0, rfl⟩
  case pos =>
    have hlb : ((L.length : Int) != M.length) = false := by simp; omega
    have HU := Lib.hid hu
    have HV := Lib.hid hv
    have HL := Lib.hid hl
    clear hu hv hl
    go_enter Try.func24, Try.ntmps24
    go_wp2
    go_loopw [5] (fun i wr => ∃ n q : Nat, i = .int .i64 n ∧ n ≤ L.length ∧ L.take n = M.take n ∧ wr = w.drewN q) (fun i _ => L.length - (intOf i).toNat)
    case atStart => exact ⟨0, 0, rfl, Nat.zero_le _, rfl, rfl⟩
    case round =>
      obtain ⟨n, q, rfl, hn, ht, rfl⟩ := hrel
      have TT := Lib.hid ht
      clear ht
      by_cases hlt : n < L.length
      case neg =>
        have hge : L.length ≤ n := by omega
        have e : decide (L = M) = true := decide_eq_true (by have := TT.out; rw [List.take_of_length_le hge, List.take_of_length_le (by rw [← HL.out]; exact hge)] at this; exact this)
        have E := Lib.hid e
        clear e
        go_wp2
        go_ret
        exact ⟨by rw [E.out]; rfl, _, rfl⟩
      case pos =>
        have hlM := HL.out
        obtain ⟨x, hx⟩ := get_of_lt hlt
        obtain ⟨y, hy⟩ := get_of_lt (show n < M.length by omega)
        obtain ⟨g, o, c', e1, _, h1⟩ := SlAt.node HU.out (by omega)
        obtain ⟨g', o', c2, e2, _, h2⟩ := SlAt.node HV.out (by omega)
        cases e1
        cases e2
        obtain ⟨k1, k2, k3, k4, k5, k6⟩ := h1 n x hx
        obtain ⟨l1, l2, l3, l4, l5, l6⟩ := h2 n y hy
        have X0 := Lib.hid hx
        have Y0 := Lib.hid hy
        have hn0 : (0 : Int) ≤ n := by omega
        have hnl : (n : Int) < L.length := by omega
        have hnm : (n : Int) < M.length := by omega
        clear hx hy h1 h2 hlM
        have hne := ne_node x y
        unfold ndC at hne
        by_cases hxy : x = y
        · rw [decide_eq_true hxy] at hne
          have XY := Lib.hid hxy
          clear hxy
          go_wp2
          go_quiet (fail)
          go_wp2
          go_roundw
          case rel => exact ⟨n + 1, _, by go_num, by omega, by rw [List.take_add_one, List.take_add_one, X0.out, Y0.out, TT.out, XY.out], rfl⟩
          case measure => simp [intOf]; omega
        · rw [decide_eq_false hxy] at hne
          have HNE := Lib.hid hxy
          clear hxy
          have NE : Hid (decide (L = M) = false) := decide_eq_false fun e => by
            have hz := Y0.out
            rw [← e, X0.out] at hz
            exact HNE.out (Option.some.inj hz)
          go_wp2
          go_quiet (fail)
          go_wp2
          go_ret
          exact ⟨by rw [NE.out]; rfl, _, World.drewN_drewN _ _ _⟩
theorem id_any (a b : Int) (w : World) : Calls Try.prog 28 #[.int .i64 a, .int .i64 b] w fun e w' => e = .returned (.agg #[.int .i64 a, .int .i64 b]) ∧ Grew w w' := by
  go_enter Try.func28, Try.ntmps28
  go_wp2
  have hb := Blk.new w 27 #[.int .i64 a, .int .i64 b]
  have c0 := hb.cell' (i := 0) (v := .int .i64 a) rfl
  have c1 := hb.cell' (i := 1) (v := .int .i64 b) rfl
  exact bodyPost_ret (v := .agg #[.int .i64 a, .int .i64 b]) (by simp [results, Try.results28, go_sem, c0, c1]) rfl ⟨rfl, (Grew.refl w).alloc _⟩
end Go.Proofs.Ytlafodnaifghcaa.Tr
namespace Go.Proofs.Ytlafodnaifghcaa.Tr
open Go.RowKit Go.Proofs.Ytlafodnaifghcaa.St Go.Proofs.Ytlafodnaifghcaa.Gl Go.Proofs.Ytlafodnaifghcaa
/-- between two pieces -/
structure LdJ (w : World) (ov av : Value) (M : List Lad) (t : Nat) (W : World) : Prop where
  ok : LaidOk M t
  out : W.ownsRow w.heap.size 52 5 ov M.length (ladE.flat M)
  all : W.ownsRow w.heap.size 27 2 av t (idE.flat (aids M))
  kept : Kept (fun _ => False) w W
def LaidPost (w : World) (e : Ending) (w' : World) : Prop :=
  Kept (fun _ => False) w w' ∧ (e = .returned (.tuple #[.slice none 0 0, .bool false]) ∨ ∃ u M t, e = .returned (.tuple #[u, .bool true]) ∧ LaidOk M t ∧ M.length ≤ 60 ∧ w'.ownsRow w.heap.size 52 5 u M.length (ladE.flat M))
set_option maxRecDepth 100000 in
set_option maxHeartbeats 8000000 in
theorem laid_any {w : World} {v : Value} {P : List Pc} (h : SlAt pcE w v P) (hin : ∀ p ∈ P, p.In) : Calls Try.prog 22 #[v] w (LaidPost w) := by
  have hlen := h.le
  unfold maxLen at hlen
  obtain ⟨a, c, rfl, _, _⟩ := h.sl
  have H := Lib.hid h
  have HI := Lib.hid hin
  clear h hin
  by_cases h60 : 60 < P.length
  · have h60' : (60 : Int) < P.length := by omega
    go_enter Try.func22, Try.ntmps22
    go_wp2_with fail
    go_ret2
    exact ⟨Kept.refl _ _, .inl rfl⟩
  have h60' : ¬ (60 : Int) < P.length := by omega
  go_enter Try.func22, Try.ntmps22
  go_wp2_with fail
  go_loopw [4, 5, 6, 7] (fun ov av tv iv wr => ∃ (i t : Nat) (M : List Lad), iv = .int .i64 i ∧ tv = .int .i64 t ∧ i ≤ P.length ∧ M.length ≤ i ∧ LdJ w ov av M t wr) (fun _ _ _ iv _ => P.length - (intOf iv).toNat)
  case atStart => exact ⟨0, 0, [], rfl, rfl, Nat.zero_le _, Nat.le_refl _, ⟨.nil, World.ownsRow_nil .., World.ownsRow_nil .., Kept.refl _ _⟩⟩
  case round =>
    obtain ⟨i, t, M, rfl, rfl, hi, hMi, hJ⟩ := hrel
    obtain ⟨oa, oc, rfl⟩ := owns_sl hJ.out
    obtain ⟨aa, ac, rfl⟩ := owns_sl hJ.all
    have J := Lib.hid hJ
    have hi0 : (0 : Int) ≤ i := by omega
    clear hJ
    by_cases hlt : i < P.length
    case neg =>
      have hnl : ¬ (i : Int) < P.length := by omega
      go_wp2_with fail
      go_ret2
      exact ⟨J.out.kept, .inr ⟨_, M, t, rfl, J.out.ok, by omega, J.out.out⟩⟩
    case pos =>
      have hnl : (i : Int) < P.length := by omega
      obtain ⟨x, hx⟩ := get_of_lt hlt
      have XI := Lib.hid (HI.out x (List.mem_of_getElem? hx))
      obtain ⟨g, o, c', e1, _, _, _, h1⟩ := SlAt.one (H.out.kept J.out.kept) (by omega)
      cases e1
      have q0 : wr.cell? ⟨g, o + i * 3, none⟩ = some (.int .i64 x.site) := h1 i x hx 0 _ rfl
      have q1 : wr.cell? ⟨g, o + i * 3 + 1, none⟩ = some (.int .i64 x.behind) := h1 i x hx 1 _ rfl
      have q2 : wr.cell? ⟨g, o + i * 3 + 2, none⟩ = some (.string x.text) := h1 i x hx 2 _ rfl
      obtain ⟨pn, pb, ps⟩ := x
      dsimp only at q0 q1 q2
      clear h1 hx
      by_cases h200 : 200 < ps.size
      · have h200' : (200 : Int) < ps.size := by omega
        go_wp2_with fail
        go_ret2
        exact ⟨J.out.kept, .inl rfl⟩
      have h200' : ¬ (200 : Int) < ps.size := by omega
      go_upto_region 12 with (go_at_call 26; refine (mend_any ps (by omega) _).mono ?_; rintro e W1 ⟨rfl, hk1⟩; have K1 := Lib.hid hk1; clear hk1)
      have p0 : W1.cell? ⟨g, o + i * 3, none⟩ = some (.int .i64 pn) := (World.cell?_of_block (a := ⟨g, o + i * 3, none⟩) (K1.out.block g (World.block_lt_of_cell? wr _ q0) (fun h => h))).trans q0
      have p1 : W1.cell? ⟨g, o + i * 3 + 1, none⟩ = some (.int .i64 pb) := (World.cell?_of_block (a := ⟨g, o + i * 3 + 1, none⟩) (K1.out.block g (World.block_lt_of_cell? wr _ q0) (fun h => h))).trans q1
      clear q0 q1 q2
      go_upto_region 13 with fail
      obtain ⟨q, hq, hq0, hq1⟩ : ∃ q, pn.tmod 16 = q ∧ -15 ≤ q ∧ q ≤ 15 := ⟨_, rfl, by have := Int.lt_tmod_of_pos pn (show (0 : Int) < 16 by decide); omega, by have := Int.tmod_lt_of_pos pn (show (0 : Int) < 16 by decide); omega⟩
      rw [hq]
      clear hq
      go_upto_if 41 with fail
      go_cut [9] (fun v wx => (∃ sn : Int, v = .int .i64 sn ∧ 0 ≤ sn ∧ sn ≤ 15) ∧ W1 = wx)
      case first =>
        by_cases hn : q < 0
        · have e0 : IntKind.i64.wrap (-q) = -q := IntWalk.i64_in _ (by omega)
          go_wp2_with fail
          go_meet
          case rel => exact ⟨⟨-q, rfl, by omega, by omega⟩, rfl⟩
        · go_wp2_with fail
          go_meet
          case rel => exact ⟨⟨q, rfl, by omega, by omega⟩, rfl⟩
      case' rest =>
        obtain ⟨⟨sn, rfl, hs0, hs1⟩, rfl⟩ := hcut
        clear hq0 hq1
        have MT : Hid (∃ rs : List Int, mend ps = runeText rs ∧ (∀ r ∈ rs, isRuneP r) ∧ rs.length ≤ 200) := Lib.hid ⟨runesL ps 0, rfl, fun r hr => runes_rune hr, by rw [runesL_len]; have := countR_le ps; omega⟩
        generalize mend ps = mt at *
        have p0' : Hid (W1.cell? ⟨g, o + i * 3, none⟩ = some (.int .i64 pn)) := Lib.hid p0
        clear p0
        go_upto_if 45 with fail
        have e9 : IntKind.i64.wrap ((i : Int) + 1) = (i : Int) + 1 := IntWalk.i64_in _ (by omega)
        have KW := Lib.hid (J.out.kept.trans K1.out fun _ _ h => h)
        have JO := Lib.hid (owns_keep J.out.out K1.out fun _ _ h => h)
        have JA := Lib.hid (owns_keep J.out.all K1.out fun _ _ h => h)
        cases hze : mt.toList.isEmpty
        case true =>
          go_wp2_with fail
          go_roundw
          case rel => exact ⟨i + 1, t, M, by go_num, rfl, by omega, by omega, ⟨J.out.ok, JO.out, JA.out, KW.out⟩⟩
          case measure => simp [intOf]; omega
        case false =>
        have ht := J.out.ok.len.2
        have ht2 : (t : Int) ≤ 12000 := by omega
        have ht3 : (0 : Int) ≤ t := by omega
        have e1 : IntKind.i64.wrap ((t : Int) + 1) = (t : Int) + 1 := IntWalk.i64_in _ (by omega)
        have e2 : IntKind.i64.wrap (sn + 1) = sn + 1 := IntWalk.i64_in _ (by omega)
        go_upto_region 17 with (go_at_call 28; refine (id_any _ _ _).mono ?_; rintro e W2 ⟨rfl, hg2⟩; have G2 := Lib.hid hg2.kept; clear hg2)
        obtain ⟨rs, hmt, hrs, hrl⟩ := MT.out
        have hrne : rs ≠ [] := by
          rintro rfl
          subst hmt
          rw [show (runeText []).toList = [] by rw [ByteArray.toList_eq]; rfl] at hze
          cases hze
        have RS := Lib.hid (And.intro hmt (And.intro hrs (And.intro hrl hrne)))
        clear MT hmt hrs hrl hrne hze
        have HB3 := Lib.hid (Blk.new W2 52 #[.int .i64 ((t : Int) + 1), .int .i64 (sn + 1), .int .i64 0, .int .i64 0, .string mt])
        have G3 := Lib.hid (G2.out.alloc (.cells #[.int .i64 ((t : Int) + 1), .int .i64 (sn + 1), .int .i64 0, .int .i64 0, .string mt] 52))
        have ZB : Hid (W1.heap.size ≤ W2.heap.size) := Lib.hid G2.out.size
        clear G2
        obtain ⟨W3, hW3⟩ : ∃ W3, (W2.alloc (.cells #[.int .i64 ((t : Int) + 1), .int .i64 (sn + 1), .int .i64 0, .int .i64 0, .string mt] 52)) = W3 := ⟨_, rfl⟩
        obtain ⟨z, hz⟩ : ∃ z, W2.heap.size = z := ⟨_, rfl⟩
        rw [hW3, hz] at HB3 ⊢
        rw [hW3] at G3
        rw [hz] at ZB
        clear hW3 hz
        have r1 : W3.cell? ⟨g, o + i * 3 + 1, none⟩ = some (.int .i64 pb) := (World.cell?_of_block (a := ⟨g, o + i * 3 + 1, none⟩) (G3.out.block g (World.block_lt_of_cell? W1 _ p1) (fun h => h))).trans p1
        have KW3 := Lib.hid (KW.out.trans G3.out fun _ _ h => h)
        have JO3 := Lib.hid (owns_keep JO.out G3.out fun _ _ h => h)
        have JA3 := Lib.hid (owns_keep JA.out G3.out fun _ _ h => h)
        have zlt : Hid (w.heap.size ≤ z) := Lib.hid (Nat.le_trans KW.out.size ZB.out)
        clear p1 KW
        have HAL := Lib.hid J.out.ok.len.1
        go_cut [63] (fun v wx => (∃ b : Bool, v = .bool b ∧ (b = true → 0 ≤ pb ∧ 0 < t)) ∧ W3 = wx)
        case first =>
          by_cases h0 : 0 ≤ pb
          · obtain ⟨tb, htb⟩ : ∃ tb, decide (0 < t) = tb := ⟨_, rfl⟩
            have e3 : ((0 : Int) < t) = (tb = true) := by rw [← htb]; simp
            have TB := Lib.hid htb
            clear htb
            go_wp2_with fail
            all_goals
              go_meet
              case rel => exact ⟨⟨_, rfl, fun h => ⟨h0, by have := TB.out; simp_all⟩⟩, rfl⟩
          · go_wp2_with fail
            go_meet
            case rel => exact ⟨⟨_, rfl, fun h => by cases h⟩, rfl⟩
        case' rest =>
          obtain ⟨⟨b, rfl, hb⟩, rfl⟩ := hcut
          go_upto_if 63 with fail
          go_cut [5] (fun v wx => v = .slice aa t ac ∧ ∃ r : ID, (r = ID.zero ∨ r ∈ aids M) ∧ Blk wx z 52 #[.int .i64 ((t : Int) + 1), .int .i64 (sn + 1), .int .i64 r.t, .int .i64 r.s, .string mt] ∧ Kept (fun b => b = z) W3 wx)
          case first =>
            cases b
            case false =>
              go_wp2_with fail
              go_meet
              case rel => exact ⟨rfl, ID.zero, .inl rfl, HB3.out, Kept.refl _ _⟩
            case true =>
              obtain ⟨hb0, hb1⟩ := hb rfl
              obtain ⟨bn, rfl⟩ : ∃ bn : Nat, pb = bn := ⟨pb.toNat, by omega⟩
              have hm : bn % t < (aids M).length := by rw [HAL.out]; exact Nat.mod_lt _ hb1
              obtain ⟨r, hr⟩ := get_of_lt hm
              have RM := Lib.hid (List.mem_of_getElem? hr)
              obtain ⟨_, hv⟩ := own_of (E := idE) JA3.out
              rcases hv with ⟨_, hv⟩ | ⟨ga, ca, hv, _, ho⟩
              · rw [hv] at hm; simp at hm
              cases hv
              have s0 : W3.cell? ⟨ga, bn % t * 2, none⟩ = some (.int .i64 r.t) := ho.cell (j := 0) hr rfl
              have s1 : W3.cell? ⟨ga, bn % t * 2 + 1, none⟩ = some (.int .i64 r.s) := ho.cell (j := 1) hr rfl
              have x2 := HB3.out.cell' (i := 2) (v := .int .i64 0) rfl
              have x3 := HB3.out.cell' (i := 3) (v := .int .i64 0) rfl
              have f2 := HB3.out.frozen 2
              have f3 := HB3.out.frozen 3
              have em : ((bn : Int)).tmod t = ((bn % t : Nat) : Int) := by rw [Int.tmod_eq_emod_of_nonneg (by omega)]; exact (Int.natCast_emod bn t).symm
              have hmt : ((bn % t : Nat) : Int) < t := by have := Nat.mod_lt bn hb1; omega
              clear hr hm ho hb
              go_wp2_with fail
              go_meet
              case rel => exact ⟨rfl, r, .inr RM.out, by have h9 := (HB3.out.set_ 2 (.int .i64 r.t)).set_ 3 (.int .i64 r.s); simpa using h9, ((Kept.refl (fun b => b = z) W3).setCell (p := ⟨z, 2, none⟩) (fun _ => rfl) _).setCell (p := ⟨z, 3, none⟩) (fun _ => rfl) _⟩
          case' rest =>
            obtain ⟨rfl, r, hr, hbx, hkx⟩ := hcut
            have RR := Lib.hid hr
            have y0 := hbx.cell' (i := 0) (v := .int .i64 ((t : Int) + 1)) rfl
            have y1 := hbx.cell' (i := 1) (v := .int .i64 (sn + 1)) rfl
            have y2 := hbx.cell' (i := 2) (v := .int .i64 r.t) rfl
            have y3 := hbx.cell' (i := 3) (v := .int .i64 r.s) rfl
            have y4 := hbx.cell' (i := 4) (v := .string mt) rfl
            obtain ⟨x, hx⟩ : ∃ x : Lad, x = ⟨⟨(t : Int) + 1, sn + 1⟩, r, mt⟩ := ⟨_, rfl⟩
            have HX := Lib.hid hx
            have LIT : Hid (∀ w' : World, SlAt ladE (w'.alloc (.cells #[.int .i64 ((t : Int) + 1), .int .i64 (sn + 1), .int .i64 r.t, .int .i64 r.s, .string mt] 52)) (.slice (some ⟨w'.heap.size, 0, none⟩) 1 1) [x]) := Lib.hid fun w' => SlAt.lit (E := ladE) [x] _ (by subst hx; rfl) (by simp [maxLen])
            have KA := hkx.alloc (.cells #[.int .i64 ((t : Int) + 1), .int .i64 (sn + 1), .int .i64 r.t, .int .i64 r.s, .string mt] 52)
            have oz : ∀ b, (Value.slice oa M.length oc).ownBlock = some b → ¬ b = z := fun b hb e => by
              have := (owns_lt JO.out b hb).2
              have := ZB.out
              omega
            have az : ∀ b, (Value.slice aa t ac).ownBlock = some b → ¬ b = z := fun b hb e => by
              have := (owns_lt JA.out b hb).2
              have := ZB.out
              omega
            have KW4 := Lib.hid (KW3.out.trans KA fun b hb e => by have := zlt.out; have e : b = z := e; omega)
            have JO4 := Lib.hid (owns_keep JO3.out KA oz)
            have JA4 := Lib.hid (owns_keep JA3.out KA az)
            have hml := J.out.ok
            clear hbx hkx KA hr hx oz az KW3 JO3 JA3 hml
            go_upto_region 20 with (at_builtin; refine wpList_append_row ladE rfl (.tmp 76) (.tmp 78) 47 rfl w.heap.size 52 _ 48 Try.underlying47 info_laid rfl (D := M) (L := [x]) rfl rfl JO4.out (LIT.out _) (by show M.length + 1 ≤ maxLen; unfold maxLen; omega) (by show (M.length + 1) * 48 ≤ 140737488355328; omega) KW4.out.size ?_; intro v5 w5 ho5 hk5)
            obtain ⟨xa, xc, rfl⟩ := owns_sl ho5
            have KW5 := Lib.hid (KW4.out.over hk5 (fun b hb => (owns_lt JO4.out b hb).1))
            have JO5 : Hid (w5.ownsRow w.heap.size 52 5 (.slice xa (M ++ [x]).length xc) (M.length + 1) (ladE.flat (M ++ [x]))) := Lib.hid (by have h9 := ho5; rw [List.length_append] at h9 ⊢; exact h9)
            have JA5 := Lib.hid (owns_keep JA4.out hk5 (fun b hb => rows_ne JA4.out JO4.out (by decide) b hb))
            obtain ⟨n, hn⟩ : ∃ n, rs.length = n := ⟨_, rfl⟩
            have CT : Hid (∀ w', Calls Try.prog 27 #[.string mt] w' fun e w'' => e = .returned (.int .i64 n) ∧ Kept (fun _ => False) w' w'') := Lib.hid fun w' => by
              obtain ⟨h1, h2, h3, h4⟩ := RS.out
              have hc := count_runeText h2
              rw [← h1] at hc
              have hz : mt.size ≤ maxLen := by
                rw [h1, runeText_size]
                have := (flat_len rs).2
                unfold maxLen
                omega
              have h5 := count_any mt hz w'
              rw [hc, hn] at h5
              exact h5.mono fun e w'' ⟨he, p, hp⟩ => ⟨he, hp ▸ iter_kept w' mt p⟩
            have NB : Hid (n ≤ 200) := Lib.hid (by have := RS.out.2.2.1; omega)
            obtain ⟨m5, hm5⟩ : ∃ m5, M.length + 1 = m5 := ⟨_, rfl⟩
            have e5 : (M ++ [x]).length = m5 := by rw [List.length_append]; exact hm5
            rw [e5] at JO5 ⊢
            rw [hm5] at JO5
            have M5 := Lib.hid hm5
            clear ho5 hk5 e5 hm5 LIT JO4 JA4 KW4
            have hnb := NB.out
            go_wp2_with fail
            go_loopw [5, 6, 11] (fun av tv kv wr => ∃ k : Nat, kv = .int .i64 k ∧ tv = .int .i64 ((t + k : Nat) : Int) ∧ k ≤ n ∧ wr.ownsRow w.heap.size 27 2 av (t + k) (idE.flat (aids M ++ runIds ((t : Int) + 1) (sn + 1) k)) ∧ wr.ownsRow w.heap.size 52 5 (.slice xa m5 xc) m5 (ladE.flat (M ++ [x])) ∧ Kept (fun _ => False) w wr) (fun _ _ kv _ => n - (intOf kv).toNat)
            case atStart => exact ⟨0, rfl, rfl, Nat.zero_le _, by simpa [runIds] using JA5.out, JO5.out, KW5.out⟩
            case round =>
              obtain ⟨k, rfl, rfl, hk, ha, ho, hkk⟩ := hrel
              obtain ⟨ba, bc, rfl⟩ := owns_sl ha
              have A6 := Lib.hid ha
              have O6 := Lib.hid ho
              have K6 := Lib.hid hkk
              clear ha ho hkk
              have hk0 : (0 : Int) ≤ k := by omega
              by_cases hkn : k < n
              case neg =>
                have hkn' : ¬ (k : Int) < n := by omega
                obtain rfl : k = n := by omega
                go_wp2_with (go_at_call 27; refine (CT.out _).mono ?_; rintro e W7 ⟨rfl, hk7⟩; have K7 := Lib.hid hk7; clear hk7)
                go_roundw
                case rel =>
                  obtain ⟨h1, h2, h3, h4⟩ := RS.out
                  have hx := HX.out
                  have hok := LaidOk.snoc (sn + 1) r rs J.out.ok (by omega) (by omega) RR.out h4 h2 h3
                  rw [hn, ← h1, ← hx] at hok
                  have hia : aids (M ++ [x]) = aids M ++ runIds ((t : Int) + 1) (sn + 1) k := by
                    rw [aids_snoc, hx]
                    unfold Lad.ids
                    dsimp only
                    rw [h1, count_runeText h2, hn]
                  refine ⟨i + 1, t + k, M ++ [x], by go_num, rfl, by omega, by rw [List.length_append]; show M.length + 1 ≤ i + 1; omega, hok, ?_, ?_, K6.out.trans K7.out fun _ _ h => h⟩
                  · have h9 := owns_keep O6.out K7.out fun _ _ h => h
                    have e5 : (M ++ [x]).length = m5 := by rw [List.length_append]; exact M5.out
                    rw [e5]
                    exact h9
                  · rw [hia]
                    exact owns_keep A6.out K7.out fun _ _ h => h
                case measure => simp [intOf]; omega
              case pos =>
                have hkn' : (k : Int) < n := by omega
                have e6 : IntKind.i64.wrap (((t + k : Nat) : Int) + 1) = ((t + (k + 1) : Nat) : Int) := by rw [IntWalk.i64_in _ (by omega)]; omega
                have e7 : IntKind.i64.wrap ((k : Int) + 1) = (k : Int) + 1 := IntWalk.i64_in _ (by omega)
                have AID : Hid (∀ w', Calls Try.prog 28 #[.int .i64 ((t + (k + 1) : Nat) : Int), .int .i64 (sn + 1)] w' fun e w'' => e = .returned (.agg #[.int .i64 ((t + (k + 1) : Nat) : Int), .int .i64 (sn + 1)]) ∧ Kept (fun _ => False) w' w'') := Lib.hid fun w' => (id_any _ _ w').mono fun e w'' ⟨he, hg⟩ => ⟨he, hg.kept⟩
                obtain ⟨t6, ht6⟩ : ∃ t6 : Nat, t + k = t6 := ⟨_, rfl⟩
                obtain ⟨t7, ht7⟩ : ∃ t7 : Nat, t + (k + 1) = t7 := ⟨_, rfl⟩
                have T6 := Lib.hid (And.intro ht6 ht7)
                have LEN6 : Hid ((aids M ++ runIds ((t : Int) + 1) (sn + 1) k).length = t6) := Lib.hid (by rw [List.length_append, runIds_len, HAL.out, ht6])
                have t6b : t6 ≤ 12200 := by omega
                rw [ht6] at A6 e6 ⊢
                rw [ht7] at AID e6
                clear ht6 ht7
                go_wp2_with (first | (go_at_call 27; refine (CT.out _).mono ?_; rintro e W7 ⟨rfl, hk7⟩; have K7 := Lib.hid hk7; clear hk7) | (go_at_call 28; refine (AID.out _).mono ?_; rintro e W8 ⟨rfl, hk8⟩; have K8 := Lib.hid (K7.out.trans hk8 fun _ _ h => h); have KL := (K8.out).alloc (.cells #[.int .i64 t7, .int .i64 (sn + 1)] 27); have A8 := Lib.hid (owns_keep A6.out KL fun _ _ h => h); have O8 := Lib.hid (owns_keep O6.out KL fun _ _ h => h); have KK8 := Lib.hid (K6.out.trans KL fun _ _ h => h); have LI := Lib.hid (SlAt.lit (E := idE) (w := W8) (t := 27) [(⟨t7, sn + 1⟩ : ID)] #[.int .i64 t7, .int .i64 (sn + 1)] rfl (by simp [maxLen])); clear hk8 KL) | (at_builtin; refine wpList_append_row idE rfl (.tmp 88) (.tmp 93) 79 rfl w.heap.size 27 _ 16 Try.underlying79 info_id rfl (D := aids M ++ runIds ((t : Int) + 1) (sn + 1) k) rfl rfl (by rw [LEN6.out]; exact A8.out) LI.out (by rw [LEN6.out]; show t6 + 1 ≤ maxLen; unfold maxLen; omega) (by rw [LEN6.out]; show (t6 + 1) * 16 ≤ 140737488355328; omega) KK8.out.size ?_; intro v9 w9 ho9 hk9))
                go_roundw
                case rel =>
                  obtain ⟨ea, eb⟩ := T6.out
                  refine ⟨k + 1, by go_num, by rw [eb], by omega, ?_, ?_, KK8.out.over hk9 fun b hb => (owns_lt A8.out b hb).1⟩
                  · have e9 : runIds ((t : Int) + 1) (sn + 1) (k + 1) = runIds ((t : Int) + 1) (sn + 1) k ++ [(⟨t7, sn + 1⟩ : ID)] := by
                      rw [runIds_snoc]
                      congr 3
                      omega
                    have h9 := ho9
                    rw [List.length_append, LEN6.out] at h9
                    rw [e9, ← List.append_assoc, eb, show t7 = t6 + 1 by omega]
                    rw [show t7 = t6 + 1 by omega] at h9
                    exact h9
                  · exact owns_keep O8.out hk9 fun b hb e => rows_ne O8.out A8.out (by decide) b hb e
                case measure => simp [intOf]; omega
end Go.Proofs.Ytlafodnaifghcaa.Tr
