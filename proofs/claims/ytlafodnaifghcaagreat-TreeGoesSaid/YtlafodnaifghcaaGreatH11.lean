/- slices.Clone of identifiers and of runs; slices.IndexFunc of identifiers that are none. tree.named: do runs name an identifier. hearsayref11.Named. hearsayref11: Shown, Len, Kept, turned, Delete, Settle. -/
import Derived.Test.YtlafodnaifghcaaGreatH6
import Derived.Test.YtlafodnaifghcaaGreatH4
import Derived.OwnWalk
import Derived.WalkSpells
import Derived.Test.YtlafodnaifghcaaGreatH8
import Derived.IntWalk
import Derived.Test.YtlafodnaifghcaaGreatH10
import Derived.Test.YtlafodnaifghcaaGreatH9
import Derived.Test.YtlafodnaifghcaaGreatH5
namespace Go.Proofs.YtlafodnaifghcaaGreat.St
open Go.RowKit

def idE : Enc ID := ⟨2, fun a => [.int .i64 a.t, .int .i64 a.s], fun _ => rfl, by decide, fun x u hu => by simp at hu; rcases hu with rfl | rfl <;> rfl⟩
def runE : Enc Run := ⟨3, fun r => [.int .i64 r.id.t, .int .i64 r.id.s, .int .i64 r.c], fun _ => rfl, by decide, fun x u hu => by simp at hu; rcases hu with rfl | rfl | rfl <;> rfl⟩
theorem info_id : (Tryz.prog.info? 37).map (fun i => (i.zero, i.size, i.bytes)) = some (some (.agg #[.int .i64 0, .int .i64 0]), 2, 16) := by kernel_rfl
theorem info_run : (Tryz.prog.info? 69).map (fun i => (i.zero, i.size, i.bytes)) = some (some (.agg #[.int .i64 0, .int .i64 0, .int .i64 0]), 3, 24) := by kernel_rfl
set_option maxRecDepth 100000 in
set_option maxHeartbeats 1000000 in
theorem clone_id {w : World} {v : Value} {L : List ID} (h : SlAt idE w v L) (hb : L.length ≤ 1000000000) :
    Calls Tryz.prog 90 #[v] w fun e w' => ∃ v', e = .returned v' ∧ w'.ownsRow w.heap.size 37 2 v' L.length (idE.flat L) ∧ Kept (fun _ => False) w w' := by
  have q := fun (w : World) (a : Option Addr) (n c n' c' : Nat) => Lib.run_eql_slice_nil (P := Tryz.prog) w 98 _ a n c n' c' Tryz.underlying98
  obtain ⟨a, c, rfl, hle, hc⟩ := h.sl
  cases a with
  | none =>
    obtain ⟨rfl, _, rfl⟩ := h.none_
    clear h hb hc hle
    go_enter Tryz.func90, Tryz.ntmps90
    go_wp2
    go_ret
    exact ⟨_, rfl, World.ownsRow_nil _ _ _ _, Kept.refl _ _⟩
  | some x =>
    obtain ⟨_, hn⟩ := h.at_
    obtain ⟨i0, hi, hz0, hz1, hz2⟩ := info_parts info_id
    have hl := idE.flat_len L
    have h1 := idE.flat_one_cell L
    generalize idE.flat L = news at hn hl h1 ⊢
    generalize L.length = n at *
    have hl2 : news.length = n * 2 := hl
    have hn2 : ∀ j u, news[j]? = some u → (w.alloc (.cells #[] 37)).cell? (x.add j) = some u := fun j u hu => by
      have hc := hn j u hu
      rw [World.cell?_of_block (a := x.add j) (w := w)]
      · exact hc
      · exact Below.heap_alloc w _ _ (World.block_lt_of_cell? w _ hc)
    have N := Lib.hid hn2
    have I := Lib.hid hi
    have Z0 := Lib.hid hz0
    have Z1 := Lib.hid hz1
    have Z2 := Lib.hid hz2
    have HL := Lib.hid hl2
    have H1 := Lib.hid h1
    have h63 : 0 + n ≤ maxLen := by unfold maxLen; omega
    have hby : (0 + n) * 16 ≤ 140737488355328 := by omega
    clear hn hn2 hi hz0 hz1 hz2 hl hl2 h1 h hc
    go_enter Tryz.func90, Tryz.ntmps90
    go_wp2_with (at_builtin; refine wpList_append_own _ rfl _ _ 98 rfl w.heap.size 37 i0 (.agg #[.int .i64 0, .int .i64 0]) 2 16 Tryz.underlying98 I.out Z0.out Z1.out Z2.out rfl (by decide) _ _ _ rfl (World.ownsRow_made w #[] 0 (Nat.le_refl _) (Nat.zero_le _) (by simp)) x n c news rfl HL.out N.out H1.out h63 hby (by simp) ?_)
    intro v' w1 hown hgrow _
    go_wp2
    go_ret
    refine ⟨v', rfl, by simpa using hown, ?_⟩
    exact ((Kept.refl _ _).alloc _).grown hgrow (fun k e hk => by simp [Value.ownBlock] at e; omega)
theorem SlAt.run {w : World} {v : Value} {L : List Run} (h : SlAt runE w v L) (hn : 0 < L.length) : ∃ g o c, v = .slice (some ⟨g, o, none⟩) L.length c ∧ g < w.heap.size ∧ ∀ (i : Nat) (x : Run), L[i]? = some x →
    w.cell? ⟨g, o + i * 3, none⟩ = some (.int .i64 x.id.t) ∧ w.cell? ⟨g, o + i * 3 + 1, none⟩ = some (.int .i64 x.id.s) ∧ w.cell? ⟨g, o + i * 3 + 2, none⟩ = some (.int .i64 x.c) := by
  obtain ⟨g, o, c, rfl, _, _, hg, hc⟩ := h.one hn
  exact ⟨g, o, c, rfl, hg, fun i x hx => ⟨hc i x hx 0 _ rfl, hc i x hx 1 _ rfl, hc i x hx 2 _ rfl⟩⟩
theorem SlAt.id {w : World} {v : Value} {L : List ID} (h : SlAt idE w v L) (hn : 0 < L.length) : ∃ g o c, v = .slice (some ⟨g, o, none⟩) L.length c ∧ g < w.heap.size ∧ ∀ (i : Nat) (x : ID), L[i]? = some x →
    w.cell? ⟨g, o + i * 2, none⟩ = some (.int .i64 x.t) ∧ w.cell? ⟨g, o + i * 2 + 1, none⟩ = some (.int .i64 x.s) := by
  obtain ⟨g, o, c, rfl, _, _, hg, hc⟩ := h.one hn
  exact ⟨g, o, c, rfl, hg, fun i x hx => ⟨hc i x hx 0 _ rfl, hc i x hx 1 _ rfl⟩⟩
end Go.Proofs.YtlafodnaifghcaaGreat.St
namespace Go.Proofs.YtlafodnaifghcaaGreat.Tr
open Go.RowKit Go.Proofs.YtlafodnaifghcaaGreat.St
/-- does a run name an identifier -/
def nameB (r : Run) (i : ID) : Bool := decide (r.id.s = i.s ∧ r.id.t ≤ i.t ∧ 0 < r.c ∧ i.t - r.id.t < r.c)
def nameL (rs : List Run) (i : ID) : Bool := rs.any fun r => nameB r i
theorem u64_wrap (a : Int) : IntKind.u64.wrap a = a % 18446744073709551616 := by rfl
theorem u64_sub {a b : Int} (h1 : b ≤ a) (h2 : 0 ≤ a ∧ a ≤ 9223372036854775807) (h3 : -9223372036854775808 ≤ b) : IntKind.u64.wrap (a - IntKind.u64.wrap b) = a - b := by
  rw [u64_wrap, u64_wrap]; omega
theorem u64_id {a : Int} (h : 0 ≤ a ∧ a ≤ 9223372036854775807) : IntKind.u64.wrap a = a := by rw [u64_wrap]; omega
set_option maxHeartbeats 2000000 in
theorem named1_any (r : Run) (hr : r.In) (x : ID) (hx : 0 ≤ x.t ∧ x.t ≤ 2147483647) (B : Nat) (w : World) (b0 : w.cell? ⟨B, 0, none⟩ = some (.int .i64 x.t)) (b1 : w.cell? ⟨B, 1, none⟩ = some (.int .i64 x.s)) (hB : B < w.heap.size) :
    Calls Tryz.prog 114 #[runV r, .pointer (some ⟨B, 0, none⟩)] w fun e w' => e = .returned (.bool (nameB r x)) ∧ Grew w w' := by
  obtain ⟨i1, _, i3⟩ := hr
  unfold I64 at i1 i3
  have hg0 := Grew.alloc (Grew.refl w) (.cells #[.int .i64 r.id.t, .int .i64 r.id.s, .int .i64 r.c] 69)
  have d0 : (w.alloc (.cells #[.int .i64 r.id.t, .int .i64 r.id.s, .int .i64 r.c] 69)).cell? ⟨B, 0, none⟩ = _ := cell_keep hg0.kept b0
  have d1 : (w.alloc (.cells #[.int .i64 r.id.t, .int .i64 r.id.s, .int .i64 r.c] 69)).cell? ⟨B, 1, none⟩ = _ := cell_keep hg0.kept b1
  have hne : ¬ B = w.heap.size := by omega
  have HG := Lib.hid hg0
  clear hg0
  unfold runV
  by_cases h1 : r.id.s = x.s
  · have q1 : (r.id.s == x.s) = true := by simpa using h1
    by_cases h2 : r.id.t ≤ x.t
    · by_cases h3 : 0 < r.c
      · have e : nameB r x = decide (x.t - r.id.t < r.c) := by unfold nameB; rw [decide_eq_decide]; exact ⟨fun h => h.2.2.2, fun h => ⟨h1, h2, h3, h⟩⟩
        have s1 := u64_sub h2 ⟨hx.1, by omega⟩ i1.1
        have s2 := u64_id (a := r.c) ⟨by omega, i3.2⟩
        rw [e]
        clear h1
        go_enter Tryz.func114, Tryz.ntmps114
        go_wp2
        go_ret
        exact ⟨rfl, HG.out⟩
      · have e : nameB r x = false := by unfold nameB; rw [decide_eq_false_iff_not]; exact fun h => h3 h.2.2.1
        rw [e]
        clear h1
        go_enter Tryz.func114, Tryz.ntmps114
        go_wp2
        go_ret
        exact ⟨rfl, HG.out⟩
    · have e : nameB r x = false := by unfold nameB; rw [decide_eq_false_iff_not]; exact fun h => h2 h.2.1
      rw [e]
      clear h1
      go_enter Tryz.func114, Tryz.ntmps114
      go_wp2
      go_ret
      exact ⟨rfl, HG.out⟩
  · have e : nameB r x = false := by unfold nameB; rw [decide_eq_false_iff_not]; exact fun h => h1 h.1
    rw [e]
    go_enter Tryz.func114, Tryz.ntmps114
    go_wp2
    go_ret
    exact ⟨rfl, HG.out⟩
set_option maxHeartbeats 2000000 in
theorem index_named {w : World} {v : Value} {L : List Run} (h : SlAt runE w v L) (hin : ∀ r ∈ L, r.In) (hb : L.length ≤ 1000000000) (x : ID) (hx : 0 ≤ x.t ∧ x.t ≤ 2147483647) (B : Nat) (b0 : w.cell? ⟨B, 0, none⟩ = some (.int .i64 x.t)) (b1 : w.cell? ⟨B, 1, none⟩ = some (.int .i64 x.s)) (hB : B < w.heap.size) :
    Calls Tryz.prog 129 #[v, .func (.func 114) #[] #[.pointer (some ⟨B, 0, none⟩)]] w fun e w' => ∃ i : Int, e = .returned (.int .i64 i) ∧ decide (0 ≤ i) = nameL L x ∧ Grew w w' := by
  have eg : ∀ args w, (callFunc 114 args).run Tryz.prog w = .ok (.enter 114 args) w := enters_of Tryz.func114 (by kernel_rfl) rfl
  obtain ⟨a, c, rfl, _, _⟩ := h.sl
  have HI := Lib.hid hin
  have HS := Lib.hid h
  have B0 := Lib.hid b0
  have B1 := Lib.hid b1
  clear hin h b0 b1
  go_enter Tryz.func129, Tryz.ntmps129
  go_wp2_with fail
  go_loopw [8] (fun i wr => ∃ n : Nat, i = .int .i64 n ∧ n ≤ L.length ∧ (∀ (j : Nat) r, j < n → L[j]? = some r → nameB r x = false) ∧ Grew w wr) (fun i _ => L.length - (intOf i).toNat)
  case atStart => exact ⟨0, rfl, Nat.zero_le _, fun _ _ h => absurd h (Nat.not_lt_zero _), Grew.refl w⟩
  case round =>
    obtain ⟨n, rfl, hn, hall, hg⟩ := hrel
    have A := Lib.hid hall
    clear hall
    by_cases hlt : n < L.length
    · obtain ⟨r, hr⟩ := get_of_lt hlt
      obtain ⟨g, o, c', hv, hglt, hc⟩ := SlAt.run (HS.out.kept hg.kept) (by omega)
      cases hv
      obtain ⟨c0, c1, c2⟩ := hc n r hr
      have hone := named1_any r (HI.out r (List.mem_of_getElem? hr)) x hx B wr (cell_keep hg.kept B0.out) (cell_keep hg.kept B1.out) (Nat.lt_of_lt_of_le hB hg.size)
      unfold runV at hone
      have X := Lib.hid hr
      have hn0 : (0 : Int) ≤ n := by omega
      have hnl : (n : Int) < L.length := by omega
      clear hr hc
      cases hbx : nameB r x
      · rw [hbx] at hone
        have BX := Lib.hid hbx
        clear hbx
        go_wp2_with fail
        refine hone.mono ?_
        rintro e w2 ⟨rfl, hg2⟩
        go_wp2_with fail
        go_roundw
        case rel => exact ⟨n + 1, by go_num, by omega, fun j y hj hy => by
          rcases Nat.lt_succ_iff_lt_or_eq.1 hj with hj | rfl
          · exact A.out j y hj hy
          · rw [X.out] at hy; cases hy; exact BX.out, hg.trans hg2⟩
        case measure => simp [intOf]; omega
      · rw [hbx] at hone
        have BX := Lib.hid hbx
        clear hbx
        go_wp2_with fail
        refine hone.mono ?_
        rintro e w2 ⟨rfl, hg2⟩
        go_wp2_with fail
        go_ret
        refine ⟨n, rfl, ?_, hg.trans hg2⟩
        rw [decide_eq_true hn0]
        exact (List.any_eq_true.2 ⟨r, List.mem_of_getElem? X.out, BX.out⟩).symm
    · have hge : L.length ≤ n := by omega
      go_wp2_with fail
      go_ret
      refine ⟨-1, rfl, ?_, hg⟩
      rw [decide_eq_false (by decide)]
      refine (List.any_eq_false.2 fun r hr => ?_).symm
      obtain ⟨j, hj⟩ := List.getElem?_of_mem hr
      simpa using A.out j r (Nat.lt_of_lt_of_le (List.getElem?_eq_some_iff.1 hj).1 hge) hj
theorem contains_named {w : World} {v : Value} {L : List Run} (h : SlAt runE w v L) (hin : ∀ r ∈ L, r.In) (hb : L.length ≤ 1000000000) (x : ID) (hx : 0 ≤ x.t ∧ x.t ≤ 2147483647) (B : Nat) (b0 : w.cell? ⟨B, 0, none⟩ = some (.int .i64 x.t)) (b1 : w.cell? ⟨B, 1, none⟩ = some (.int .i64 x.s)) (hB : B < w.heap.size) :
    Calls Tryz.prog 113 #[v, .func (.func 114) #[] #[.pointer (some ⟨B, 0, none⟩)]] w fun e w' => e = .returned (.bool (nameL L x)) ∧ Grew w w' := by
  have hi := index_named h hin hb x hx B b0 b1 hB
  clear h hin b0 b1
  generalize nameL L x = b at *
  go_enter Tryz.func113, Tryz.ntmps113
  go_wp2_with fail
  refine hi.mono ?_
  rintro e w2 ⟨i, rfl, hb, hg⟩
  have BB := Lib.hid hb
  clear hb
  go_wp2_with fail
  go_ret
  exact ⟨by rw [← BB.out]; rfl, hg⟩
theorem named_any {w : World} {v : Value} {L : List Run} (h : SlAt runE w v L) (hin : ∀ r ∈ L, r.In) (hb : L.length ≤ 1000000000) (x : ID) (hx : 0 ≤ x.t ∧ x.t ≤ 2147483647) :
    Calls Tryz.prog 94 #[v, idV x] w fun e w' => e = .returned (.bool (nameL L x)) ∧ Grew w w' := by
  have hg0 := Grew.alloc (Grew.refl w) (.cells #[.int .i64 x.t, .int .i64 x.s] 37)
  have hb0 := Blk.new w 37 #[.int .i64 x.t, .int .i64 x.s]
  have hc := contains_named (h.kept hg0.kept) hin hb x hx w.heap.size (hb0.cell' (i := 0) rfl) (hb0.cell' (i := 1) rfl) hb0.lt
  have K := Lib.hid hg0
  obtain ⟨a, c, rfl, _, _⟩ := h.sl
  clear hb0 hg0 h
  generalize nameL L x = b at *
  unfold idV
  go_enter Tryz.func94, Tryz.ntmps94
  go_wp2_with fail
  refine hc.mono ?_
  rintro e w2 ⟨rfl, hg⟩
  go_wp2_with fail
  go_ret
  exact ⟨rfl, K.out.trans hg⟩
end Go.Proofs.YtlafodnaifghcaaGreat.Tr
namespace Go.Proofs.YtlafodnaifghcaaGreat.Tr
open Go.RowKit Go.Sort Go.Proofs.YtlafodnaifghcaaGreat.St
theorem nameL_snoc (A : List Run) (r : Run) (i : ID) : nameL (A ++ [r]) i = (nameL A i || nameB r i) := by simp [nameL]
theorem nameL_mem {rs : List Run} {r : Run} {i : ID} (h : r ∈ rs) (hb : nameB r i = true) : nameL rs i = true := List.any_eq_true.2 ⟨r, h, hb⟩
set_option maxRecDepth 100000 in
set_option maxHeartbeats 8000000 in
theorem rnamed_any {w : World} {v : Value} {rs : List Run} (h : SlAt runE w v rs) (hin : ∀ r ∈ rs, r.In) (hlen : rs.length ≤ 1000000) (i : ID) (hi : 0 ≤ i.t ∧ i.t ≤ 2147483647) :
    Calls Tryz.prog 101 #[v, idV i] w fun e w' => e = .returned (.bool (nameL rs i)) ∧ Kept (fun _ => False) w w' := by
  obtain ⟨it, is⟩ := i
  show Calls _ _ #[_, .agg #[.int .i64 it, .int .i64 is]] _ _
  obtain ⟨a, c, rfl, _, _⟩ := h.sl
  have hk0 : Kept (fun _ => False) w (w.alloc (.cells #[.int .i64 it, .int .i64 is] 37)) := (Kept.refl _ _).alloc _
  have HL := Lib.hid h
  have HI := Lib.hid hin
  have K0 := Lib.hid hk0
  have B0 := Lib.hid (Blk.new w 37 #[.int .i64 it, .int .i64 is])
  simp only at hi
  clear h hk0 hin
  go_enter Tryz.func101, Tryz.ntmps101
  go_upto_region 1 with fail
  obtain ⟨z, hz⟩ : ∃ z, w.heap.size = z := ⟨_, rfl⟩
  obtain ⟨W0, hW0⟩ : ∃ W0, (w.alloc (.cells #[.int .i64 it, .int .i64 is] 37)) = W0 := ⟨_, rfl⟩
  rw [hz] at B0 ⊢
  rw [hW0] at K0 B0 ⊢
  clear hW0 hz
  go_wp2_with fail
  go_loopw [5] (fun kv wr => ∃ n : Nat, kv = .int .i64 n ∧ n ≤ rs.length ∧ nameL (rs.take n) ⟨it, is⟩ = false ∧ Kept (fun _ => False) W0 wr) (fun kv _ => rs.length - (intOf kv).toNat)
  case atStart => exact ⟨0, rfl, Nat.zero_le _, rfl, Kept.refl _ _⟩
  case round =>
    obtain ⟨n, rfl, hn, hno, hkw⟩ := hrel
    have NO := Lib.hid hno
    have KW := Lib.hid hkw
    clear hno hkw
    have hn0 : (0 : Int) ≤ n := by omega
    by_cases hlt : n < rs.length
    case neg =>
      have hnl : ¬ (n : Int) < rs.length := by omega
      have AN : Hid (nameL rs ⟨it, is⟩ = false) := Lib.hid (by have h9 := NO.out; rw [List.take_of_length_le (by omega)] at h9; exact h9)
      go_wp2_with fail
      go_ret
      exact ⟨by rw [AN.out]; rfl, K0.out.trans KW.out fun _ _ h => h⟩
    case pos =>
      have hnl : (n : Int) < rs.length := by omega
      obtain ⟨x, hx⟩ := get_of_lt hlt
      have hxm := List.mem_of_getElem? hx
      obtain ⟨⟨xi1, xi2⟩, xs, xc1, xc2⟩ := HI.out x hxm
      obtain ⟨g, o, c', e1, _, h1⟩ := SlAt.run (HL.out.kept (K0.out.trans KW.out fun _ _ h => h)) (by omega)
      cases e1
      obtain ⟨r0, r1, r2⟩ := h1 n x hx
      have e1 : IntKind.i64.wrap ((n : Int) + 1) = (n : Int) + 1 := IntWalk.i64_in _ (by omega)
      have htk : rs.take (n + 1) = rs.take n ++ [x] := by rw [List.take_add_one, hx]; rfl
      have KA := Lib.hid (KW.out.alloc (.cells #[.int .i64 x.id.t, .int .i64 x.id.s, .int .i64 x.c] 69))
      have hb := (KW.out.blk (fun h => h) B0.out).alloc (.cells #[.int .i64 x.id.t, .int .i64 x.id.s, .int .i64 x.c] 69)
      have hb2 := Blk.new wr 69 #[.int .i64 x.id.t, .int .i64 x.id.s, .int .i64 x.c]
      have z0 := hb.cell' (i := 0) (v := .int .i64 it) rfl
      have z1 := hb.cell' (i := 1) (v := .int .i64 is) rfl
      have y0 := hb2.cell' (i := 0) (v := .int .i64 x.id.t) rfl
      have y1 := hb2.cell' (i := 1) (v := .int .i64 x.id.s) rfl
      have y2 := hb2.cell' (i := 2) (v := .int .i64 x.c) rfl
      have YES : Hid (nameB x ⟨it, is⟩ = true → nameL rs ⟨it, is⟩ = true) := Lib.hid fun h => nameL_mem hxm h
      have NOX : Hid (nameB x ⟨it, is⟩ = false → nameL (rs.take (n + 1)) ⟨it, is⟩ = false) := Lib.hid fun h => by rw [htk, nameL_snoc, NO.out, h]; rfl
      clear hx hxm h1 htk hb hb2
      go_upto_region 5 with fail
      obtain ⟨W1, hW1⟩ : ∃ W1, (wr.alloc (.cells #[.int .i64 x.id.t, .int .i64 x.id.s, .int .i64 x.c] 69)) = W1 := ⟨_, rfl⟩
      obtain ⟨zb, hzb⟩ : ∃ zb, wr.heap.size = zb := ⟨_, rfl⟩
      rw [hzb] at y0 y1 y2 ⊢
      rw [hW1] at y0 y1 y2 z0 z1 KA ⊢
      clear hW1 hzb r0 r1 r2
      by_cases q1 : x.id.s = is
      case neg =>
        have f1 : (x.id.s == is) = false := by simpa using q1
        have NB : Hid (nameB x ⟨it, is⟩ = false) := Lib.hid (decide_eq_false fun h => q1 h.1)
        clear q1
        go_wp2_with fail
        go_roundw
        case rel => exact ⟨n + 1, by go_num, by omega, NOX.out NB.out, KA.out⟩
        case measure => simp [intOf]; omega
      case pos =>
        have f1 : (x.id.s == is) = true := by simpa using q1
        rw [q1] at y1
        by_cases q2 : x.id.t ≤ it
        case neg =>
          have NB : Hid (nameB x ⟨it, is⟩ = false) := Lib.hid (decide_eq_false fun h => q2 h.2.1)
          go_wp2_with fail
          go_roundw
          case rel => exact ⟨n + 1, by go_num, by omega, NOX.out NB.out, KA.out⟩
          case measure => simp [intOf]; omega
        case pos =>
          by_cases q3 : 1 ≤ x.c
          case neg =>
            have NB : Hid (nameB x ⟨it, is⟩ = false) := Lib.hid (decide_eq_false fun h => q3 (by have := h.2.2.1; omega))
            go_wp2_with fail
            go_roundw
            case rel => exact ⟨n + 1, by go_num, by omega, NOX.out NB.out, KA.out⟩
            case measure => simp [intOf]; omega
          case pos =>
            have hq : (0 < x.id.t) ∨ (¬ 0 < x.id.t ∧ it < x.id.t + x.c) ∨ (¬ 0 < x.id.t ∧ ¬ it < x.id.t + x.c) := by omega
            rcases hq with q4 | ⟨q4, q5⟩ | ⟨q4, q5⟩
            case' inl =>
              have w2 : IntKind.i64.wrap (it - x.id.t) = it - x.id.t := IntWalk.i64_in _ (by omega)
            case' inr.inl =>
              have w1 : IntKind.i64.wrap (x.id.t + x.c) = x.id.t + x.c := IntWalk.i64_in _ (by omega)
              have w2 : IntKind.i64.wrap (it - x.id.t) = it - x.id.t := IntWalk.i64_in _ (by omega)
            case inr.inr =>
              have w1 : IntKind.i64.wrap (x.id.t + x.c) = x.id.t + x.c := IntWalk.i64_in _ (by omega)
              have NB : Hid (nameB x ⟨it, is⟩ = false) := Lib.hid (decide_eq_false fun h => q5 (by have h9 : it - x.id.t < x.c := h.2.2.2; omega))
              go_wp2_with fail
              go_roundw
              case rel => exact ⟨n + 1, by go_num, by omega, NOX.out NB.out, KA.out⟩
              case measure => simp [intOf]; omega
            all_goals
              by_cases q6 : it - x.id.t < x.c
              · have NB : Hid (nameB x ⟨it, is⟩ = true) := Lib.hid (decide_eq_true ⟨q1, q2, by omega, q6⟩)
                have AN := Lib.hid (YES.out NB.out)
                go_wp2_with fail
                go_ret
                exact ⟨by rw [AN.out]; rfl, K0.out.trans KA.out fun _ _ h => h⟩
              · have NB : Hid (nameB x ⟨it, is⟩ = false) := Lib.hid (decide_eq_false fun h => q6 h.2.2.2)
                first
                  | (exfalso; omega)
                  | (go_wp2_with fail
                     exact ⟨⟨n + 1, by go_num, by omega, NOX.out NB.out, KA.out⟩, by simp [intOf]; omega⟩)
end Go.Proofs.YtlafodnaifghcaaGreat.Tr
namespace Go.Proofs.YtlafodnaifghcaaGreat.Tr
open Go.RowKit Go.Sort Go.Proofs.YtlafodnaifghcaaGreat.St
theorem info_id2 : (Tryz.prog.info? 37).map (fun i => (i.zero, i.size, i.bytes)) = some (some (.agg #[.int .i64 0, .int .i64 0]), 2, 16) := by kernel_rfl
theorem shL_snoc2 (A : List Nd) (m : Nd) : shL (A ++ [m]) = if m.st = 1 then shL A ++ [m] else shL A := by
  unfold shL
  rw [List.filter_append]
  by_cases h : m.st = 1
  · simp [h]
  · simp [h]
theorem owns_base9 {w : World} {base base' n size : Nat} {e : TypeId} {v : Value} {xs : List Value} (h : w.ownsRow base e size v n xs) (hb : base' ≤ base) : w.ownsRow base' e size v n xs := by
  refine ⟨h.1, ?_⟩
  rcases h.2 with h' | ⟨g, cap, cur, rfl, hb', r⟩
  · exact .inl h'
  · exact .inr ⟨g, cap, cur, rfl, Nat.le_trans hb hb', r⟩
set_option maxRecDepth 100000 in
set_option maxHeartbeats 4000000 in
theorem rshown_any {w : World} {v : Value} {L : List Nd} (h : SlAt nodeE w v L) (hlen : L.length ≤ 900000) :
    Calls Tryz.prog 54 #[.agg #[v]] w fun e w' => (∃ u, e = .returned u ∧ w'.ownsRow w.heap.size 37 2 u (shL L).length (idE.flat (ids (shL L)))) ∧ Kept (fun _ => False) w w' := by
  obtain ⟨a, c, rfl, _, _⟩ := h.sl
  have hk0 : Kept (fun _ => False) w (w.alloc (.cells #[.slice a L.length c] 33)) := (Kept.refl _ _).alloc _
  have HL := Lib.hid (h.kept hk0)
  have K0 := Lib.hid hk0
  have B0 := Lib.hid (Blk.new w 33 #[.slice a L.length c])
  clear h hk0
  go_enter Tryz.func54, Tryz.ntmps54
  go_upto_region 1 with fail
  obtain ⟨z, hz⟩ : ∃ z, w.heap.size = z := ⟨_, rfl⟩
  obtain ⟨W0, hW0⟩ : ∃ W0, (w.alloc (.cells #[.slice a L.length c] 33)) = W0 := ⟨_, rfl⟩
  rw [hW0] at HL K0 B0 ⊢
  rw [hz] at B0 ⊢
  have HZ := Lib.hid hz
  clear hW0 hz
  go_wp2_with fail
  go_loopw [3, 4] (fun ov kv wr => ∃ n : Nat, kv = .int .i64 n ∧ n ≤ L.length ∧ wr.ownsRow W0.heap.size 37 2 ov (shL (L.take n)).length (idE.flat (ids (shL (L.take n)))) ∧ Kept (fun _ => False) W0 wr) (fun _ kv _ => L.length - (intOf kv).toNat)
  case atStart => exact ⟨0, rfl, Nat.zero_le _, World.ownsRow_nil .., Kept.refl _ _⟩
  case round =>
    obtain ⟨n, rfl, hn, ho, hk⟩ := hrel
    have HO := Lib.hid ho
    have KW := Lib.hid hk
    have hn0 : (0 : Int) ≤ n := by omega
    have c0 := (hk.blk (fun h => h) B0.out).cell' (i := 0) (v := .slice a L.length c) rfl
    clear ho hk
    by_cases hlt : n < L.length
    case neg =>
      have hnl : ¬ (n : Int) < L.length := by omega
      have OW := HO.out
      rw [List.take_of_length_le (by omega)] at OW
      have O9 := Lib.hid OW
      clear OW
      go_wp2_with fail
      go_ret
      exact ⟨⟨_, rfl, owns_base9 O9.out K0.out.size⟩, K0.out.trans KW.out fun _ _ h => h⟩
    case pos =>
      have hnl : (n : Int) < L.length := by omega
      obtain ⟨x, hx⟩ := get_of_lt hlt
      obtain ⟨g, o, c', e1, _, h1⟩ := SlAt.node (HL.out.kept KW.out) (by omega)
      cases e1
      obtain ⟨r0, r1, r2, r3, r4, r5⟩ := h1 n x hx
      have e1 : IntKind.i64.wrap ((n : Int) + 1) = (n : Int) + 1 := IntWalk.i64_in _ (by omega)
      have htk : L.take (n + 1) = L.take n ++ [x] := by rw [List.take_add_one, hx]; rfl
      by_cases hst : x.st = 1
      case neg =>
        have q6 : (x.st == 1) = false := by simpa using hst
        have E9 : Hid (shL (L.take (n + 1)) = shL (L.take n)) := Lib.hid (by rw [htk, shL_snoc2, if_neg hst])
        clear htk hx h1 hst
        go_wp2_with fail
        go_roundw
        case rel => exact ⟨n + 1, by go_num, by omega, by rw [E9.out]; exact HO.out, KW.out⟩
        case measure => simp [intOf]; omega
      case pos =>
        have E9 : Hid (shL (L.take (n + 1)) = shL (L.take n) ++ [x]) := Lib.hid (by rw [htk, shL_snoc2, if_pos hst])
        obtain ⟨⟨xt, xs⟩, xr, xc, xst⟩ := x
        simp only at hst r0 r1 r2 r3 r4 r5 E9
        subst hst
        have hdl : (shL (L.take n)).length ≤ 900000 := by have := shL_le (L.take n); have := List.length_take_le n L; omega
        have DL := Lib.hid hdl
        have LD : Hid (SlAt idE (wr.alloc (.cells #[.int .i64 xt, .int .i64 xs] 37)) (.slice (some ⟨wr.heap.size, 0, none⟩) 1 1) [(⟨xt, xs⟩ : ID)]) := Lib.hid (SlAt.lit (E := idE) [(⟨xt, xs⟩ : ID)] _ rfl (by simp [maxLen]))
        have k2 : Kept (fun _ => False) wr (wr.alloc (.cells #[.int .i64 xt, .int .i64 xs] 37)) := (Kept.refl _ _).alloc _
        have O2 : Hid ((wr.alloc (.cells #[.int .i64 xt, .int .i64 xs] 37)).ownsRow W0.heap.size 37 2 u3 (ids (shL (L.take n))).length (idE.flat (ids (shL (L.take n))))) := Lib.hid (by rw [List.length_map]; exact owns_keep HO.out k2 (fun _ _ h => h))
        have K2 := Lib.hid (KW.out.trans k2 (fun _ _ h => h))
        clear k2 htk hx h1 hdl
        go_wp2_with (at_builtin; refine wpList_append_row idE rfl (.tmp 19) (.tmp 26) 98 rfl W0.heap.size 37 _ 16 Tryz.underlying98 info_id2 rfl rfl rfl O2.out LD.out (by have := DL.out; rw [List.length_map]; show _ + 1 ≤ maxLen; unfold maxLen; omega) (by have := DL.out; rw [List.length_map]; show (_ + 1) * 16 ≤ 140737488355328; omega) K2.out.size ?_; intro v3 w3 ho3 hk3)
        go_roundw
        case rel => exact ⟨n + 1, by go_num, by omega, by rw [E9.out]; have h9 : w3.ownsRow W0.heap.size 37 2 v3 _ _ := ho3; simpa [ids] using h9, K2.out.over hk3 (fun x hx => owns_new O2.out x hx)⟩
        case measure => simp [intOf]; omega
end Go.Proofs.YtlafodnaifghcaaGreat.Tr
