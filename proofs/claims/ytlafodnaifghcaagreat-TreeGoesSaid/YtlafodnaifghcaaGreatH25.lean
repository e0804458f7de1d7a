/- stamp.Pack, walked. Span, by a range over shown. Span, by a range over shown: what may be asked for. -/
import Derived.Test.YtlafodnaifghcaaGreatH24
import Derived.Test.YtlafodnaifghcaaGreatH10
import Derived.Test.YtlafodnaifghcaaGreatH9
import Derived.Sort.QuietTacIn
import Derived.IntWalk
namespace Go.Proofs.YtlafodnaifghcaaGreat.St
open Go.RowKit

theorem index_nil (w : World) : Calls Tryz.prog 110 #[.slice none 0 0, .func (.func 91) #[] #[]] w fun e w' => e = .returned (.int .i64 (-1)) ∧ w = w' := by
  go_enter Tryz.func110, Tryz.ntmps110
  go_wp2
  refine wp_loop_rounds 1 ?_
  rw [rounds_succ]
  go_wp2
  go_ret
  exact ⟨rfl, rfl⟩
theorem delete_nil (w : World) : Calls Tryz.prog 89 #[.slice none 0 0, .func (.func 91) #[] #[]] w fun e w' => e = .returned (.slice none 0 0) ∧ w = w' := by
  go_enter Tryz.func89, Tryz.ntmps89
  go_wp2_with fail
  refine (index_nil _).mono ?_
  rintro e w1 ⟨rfl, rfl⟩
  go_wp2_with fail
  go_ret
  exact ⟨rfl, rfl⟩
theorem sort_nil (w : World) : Calls Tryz.prog 92 #[.slice none 0 0, .func (.func 46) #[] #[]] w fun e w' => e = .returned (.tuple #[]) ∧ w = w' :=
  (AnyF.slices_SortFunc_none sortID none 0 _ w).mono fun _ _ ⟨h1, h2⟩ => ⟨h1, h2.symm⟩
theorem compact_all {w : World} {t : TypeId} {g cap : Nat} {D : List ID} (h : OwnAt idE w t g cap D) (hb : D.length ≤ 1000000000) :
    Calls Tryz.prog 93 #[.slice (some ⟨g, 0, none⟩) D.length cap] w fun e w' => e = .returned (.slice (some ⟨g, 0, none⟩) (dd D).length cap) ∧ OwnAt idE w' t g cap (dd D) ∧ Kept (· = g) w w' := by
  by_cases h2 : 2 ≤ D.length
  · exact compact_id h hb h2
  · refine (compact_short rfl (by omega)).mono ?_
    rintro e w' ⟨rfl, rfl⟩
    rw [dd_short (by omega)]
    exact ⟨rfl, h, Kept.refl _ _⟩
theorem setOf_dd {L D' : List ID} (hp : D'.Perm (L.filter isB)) (hs : Sorted D') : SetOf L (dd D') := by
  refine ⟨dd_rising hs, fun x => ?_⟩
  rw [dd_mem, hp.mem_iff, List.mem_filter]
  simp [isB]

theorem OwnAt.run {w : World} {t : TypeId} {g cap : Nat} {D : List Run} (h : OwnAt runE w t g cap D) {i : Nat} {x : Run} (hx : D[i]? = some x) :
    w.cell? ⟨g, i * 3, none⟩ = some (.int .i64 x.id.t) ∧ w.cell? ⟨g, i * 3 + 1, none⟩ = some (.int .i64 x.id.s) ∧ w.cell? ⟨g, i * 3 + 2, none⟩ = some (.int .i64 x.c) := ⟨h.cell (j := 0) hx rfl, h.cell (j := 1) hx rfl, h.cell (j := 2) hx rfl⟩
theorem packStep_some {out : List Run} {x : ID} {k : Nat} {r : Run} (hg : growAt out x = some k) (hk : out[k]? = some r) : packStep out x = out.set k r.up := by
  have hkl : k < out.length := (List.getElem?_eq_some_iff.1 hk).1
  unfold packStep
  rw [hg]
  apply List.ext_getElem?
  intro i
  show (out.modify k Run.up)[i]? = _
  rw [modify_get hk, List.getElem?_set]
  by_cases h : k = i
  · subst h; simp [hkl]
  · simp [h]
/-- where Pack's loop stands -/
def PackRel (w : World) (g cap mb : Nat) (S : List ID) (rv iv : Value) (wr : World) : Prop :=
  ∃ (v : Value) (n : Nat) (kvs : List (ID × Value)), v = rv ∧ iv = .int .i64 n ∧ n ≤ S.length ∧ wr.ownsRow w.heap.size 69 3 v (packL (S.take n)).length (runE.flat (packL (S.take n))) ∧ MapK idK wr mb kvs ∧ GrowsOk kvs (packL (S.take n)) ∧ OwnAt idE wr 37 g cap S ∧ Kept (fun _ => False) w wr
theorem Kept.newer {w w1 w2 : World} {b : Nat} (h : Kept (fun _ => False) w w1) (k : Kept (· = b) w1 w2) (hb : w.heap.size ≤ b) : Kept (fun _ => False) w w2 := h.trans k fun i hi e => by omega
set_option maxRecDepth 100000 in
set_option maxHeartbeats 4000000 in
theorem pack_any {w : World} {v : Value} {L : List ID} (h : SlAt idE w v L) (hb : L.length ≤ 1000000) : Calls Tryz.prog 61 #[v] w fun e w' => ∃ v' S, e = .returned v' ∧ SetOf L S ∧ w'.ownsRow w.heap.size 69 3 v' (packL S).length (runE.flat (packL S)) ∧ Kept (fun _ => False) w w' := by
  have hmm := @run_makeMap Tryz.prog
  go_enter Tryz.func61, Tryz.ntmps61
  go_wp2_with fail
  refine (clone_id h (by omega)).mono ?_
  rintro e w1 ⟨v1, rfl, ho, hk1⟩
  obtain ⟨_, ho | ⟨g, cap, rfl, hgb, hO⟩⟩ := own_of (E := idE) ho
  · obtain ⟨rfl, rfl⟩ := ho
    clear h
    go_wp2_with fail
    refine (delete_nil _).mono ?_
    rintro e w2 ⟨rfl, rfl⟩
    go_wp2_with fail
    refine (sort_nil _).mono ?_
    rintro e w2 ⟨rfl, rfl⟩
    go_wp2_with fail
    refine (compact_short (n := 0) rfl (by omega)).mono ?_
    rintro e w2 ⟨rfl, rfl⟩
    go_wp2_with fail
    refine wp_loop_rounds 1 ?_
    rw [rounds_succ]
    go_wp2_with fail
    go_ret
    exact ⟨_, [], rfl, ⟨List.Pairwise.nil, fun x => by simp⟩, World.ownsRow_nil _ _ _ _, hk1.alloc _⟩
  have hOl := hO.le
  clear ho h
  go_wp2_with fail
  refine (delete_id hO (by omega)).mono ?_
  rintro e w2 ⟨rfl, hO2, hk2⟩
  have hl2 := List.length_filter_le isB L
  go_wp2_with fail
  refine (sort_id hO2 (by omega)).mono ?_
  rintro e w3 ⟨rfl, D', hp, hs, hO3, hk3⟩
  have hl3 := hp.length_eq
  have HL := Lib.hid hl3
  rw [← hl3]
  have hDl : D'.length ≤ 1000000 := by omega
  clear hl3
  go_wp2_with fail
  refine (compact_all (hO3.keep ((Kept.refl (fun _ => False) w3).alloc (.map #[] 0)) (fun h => h)) (by omega)).mono ?_
  rintro e w4 ⟨rfl, hO4, hk4⟩
  have hset := setOf_dd hp hs
  have hSl : (dd D').length ≤ 1000000 := by have := dd_len D'; omega
  have hkw : Kept (fun _ => False) w w4 := by
    have a1 := Kept.newer hk1 hk2 hgb
    have a2 := Kept.newer a1 hk3 hgb
    exact Kept.newer (a2.alloc _) hk4 hgb
  have hmap : MapK idK w4 w3.heap.size [] := (MapK.made w3).keep hk4 (fun e => by have := hO3.lt; omega)
  have hmb : w.heap.size ≤ w3.heap.size := by have := hk1.size; have := hk2.size; have := hk3.size; omega
  have HK := Lib.hid hkw
  have HM := Lib.hid hmap
  have HS := Lib.hid hset
  clear hkw hmap hset HL hp hs hO3 hk3 hO2 hk2 hO hk1 hk4 hl2
  generalize dd D' = S at *
  generalize w3.heap.size = mb at *
  go_wp2_with fail
  go_loopw [4, 19] (fun rv iv wr => PackRel w g cap mb S rv iv wr) (fun _ iv _ => S.length - (intOf iv).toNat)
  case atStart => exact ⟨.slice none 0 0, 0, [], rfl, rfl, Nat.zero_le _, World.ownsRow_nil _ _ _ _, HM.out, ⟨List.nodup_nil, fun x => rfl⟩, hO4, HK.out⟩
  case round =>
    clear hO4 HM HK
    obtain ⟨rv, n, kvs, rfl, rfl, hn, hown, hM, hG, hO, hkw⟩ := hrel
    by_cases hlt : n < S.length
    case neg =>
      have hge : S.length ≤ n := by omega
      rw [List.take_of_length_le hge] at hown
      have OW := Lib.hid hown
      clear hown hG
      go_wp2_with fail
      go_ret
      exact ⟨_, S, rfl, HS.out, OW.out, hkw⟩
    case pos =>
      obtain ⟨ra, rc, rfl⟩ := owns_sl hown
      obtain ⟨x, hx⟩ := get_of_lt hlt
      obtain ⟨c0, c1⟩ := OwnAt.id hO hx
      have hIs : x.Is := ((HS.out.2 x).1 (List.mem_of_getElem? hx)).2
      unfold ID.Is at hIs
      obtain ⟨i1, i2, i3, i4⟩ := hIs
      have ho1 := packOk_take HS.out.1 n hn
      have ho2 := packOk_take HS.out.1 (n + 1) hlt
      have hpl := packL_len (S.take n)
      rw [List.length_take] at hpl
      have hids : ∀ r ∈ packL (S.take n), 1 ≤ r.id.t := fun r hr => ((HS.out.2 r.id).1 (List.mem_of_mem_take (packL_ids _ r hr))).2.1
      have hsucc := packL_take_succ hx
      have X0 := Lib.hid hx
      clear hx
      generalize packL (S.take n) = out at *
      rw [hsucc] at ho2
      have SU := Lib.hid hsucc
      have ID1 := Lib.hid hids
      clear hsucc hids
      have hn0 : (0 : Int) ≤ n := by omega
      have hnl : (n : Int) < S.length := by omega
      have nbm : wr.heap.size ≠ mb := Nat.ne_of_gt hM.lt
      have hk1 : Kept (fun _ => False) wr (wr.alloc (.cells #[.int .i64 x.t, .int .i64 x.s] 37)) := (Kept.refl _ _).alloc _
      have hM1 : MapK idK (wr.alloc (.cells #[.int .i64 x.t, .int .i64 x.s] 37)) mb kvs := hM.keep hk1 (fun h => h)
      have hB1 := Blk.new wr 37 #[.int .i64 x.t, .int .i64 x.s]
      have hget := hG.2 x
      cases hg : growAt out x with
      | some k =>
        rw [hg] at hget
        obtain ⟨r, hk, hr⟩ := growAt_some hg
        have hkl : k < out.length := (List.getElem?_eq_some_iff.1 hk).1
        have hlk : (Instr.lookup 143 (.map (some mb)) (.agg #[.int .i64 x.t, .int .i64 x.s]) true).run Tryz.prog (wr.alloc (.cells #[.int .i64 x.t, .int .i64 x.s] 37)) = .ok (.tuple #[.int .i64 k, .bool true]) (wr.alloc (.cells #[.int .i64 x.t, .int .i64 x.s] 37)) := run_lookupK_ok (K := idK) (k := x) Tryz.underlying143 hM1 hget
        obtain ⟨w5, hdel0, hM5, hk5⟩ := run_deleteK (P := Tryz.prog) (k := x) Tryz.underlying143 0 hM1
        have hdel : (Builtin.delete_ #[143, 37] 0 #[.map (some mb), .agg #[.int .i64 x.t, .int .i64 x.s]]).run Tryz.prog (wr.alloc (.cells #[.int .i64 x.t, .int .i64 x.s] 37)) = .ok (.tuple #[]) w5 := hdel0
        obtain ⟨_, hno | ⟨g2, cap2, hv2, hgb2, hR⟩⟩ := own_of (E := runE) hown
        · obtain ⟨_, rfl⟩ := hno; simp at hkl
        cases hv2
        have ng2 : g2 ≠ mb := by obtain ⟨cs, hb, _⟩ := hR; exact hM.ne_blk hb
        have ngb : g2 ≠ wr.heap.size := Nat.ne_of_lt hR.lt
        have hR5 := (hR.keep hk1 (fun h => h)).keep hk5 ng2
        obtain ⟨r0, r1, r2⟩ := OwnAt.run hR5 hk
        have rf := hR5.frozen (k * 3 + 2)
        have hB5 := hk5.blk (fun e => nbm e) hB1
        have hR6 := OwnAt.set1of3 (m := 2) (y := r.up) hR5 hk (by decide) (by rfl : runE.enc r.up = (runE.enc r).set 2 (.int .i64 (r.c + 1)))
        have hB6 := hB5.far (p := ⟨g2, k * 3 + 2, none⟩) (fun e => ngb e.symm) (.int .i64 (r.c + 1))
        have hk6 : Kept (· = g2) w5 (w5.setCell ⟨g2, k * 3 + 2, none⟩ (.int .i64 (r.c + 1))) := Kept.setCell (Kept.refl (· = g2) w5) (p := ⟨g2, k * 3 + 2, none⟩) (fun _ => rfl) _
        have hM6 := hM5.keep hk6 (fun e => ng2 e.symm)
        have hrc : r.c = x.t - r.id.t := by have := congrArg ID.t hr; simp only [Run.next] at this; omega
        have hr1 := ID1.out r (List.mem_of_getElem? hk)
        have hr2 := ho1.pos r (List.mem_of_getElem? hk)
        obtain ⟨w7, hup0, hM7, hk7⟩ := run_updateK (P := Tryz.prog) (k := (⟨x.t + 1, x.s⟩ : ID)) Tryz.underlying143 hM6 (.int .i64 (k : Int))
        have hup : (Instr.mapUpdate 143 (.map (some mb)) (.agg #[.int .i64 (x.t + 1), .int .i64 x.s]) (.int .i64 k)).run Tryz.prog (w5.setCell ⟨g2, k * 3 + 2, none⟩ (.int .i64 (r.c + 1))) = .ok () w7 := hup0
        have b0 : _ = some (Value.int .i64 x.t) := hB5.cell' (i := 0) rfl
        have b1 : _ = some (Value.int .i64 x.s) := hB5.cell' (i := 1) rfl
        have d0 : _ = some (Value.int .i64 x.t) := hB6.cell' (i := 0) rfl
        have d1 : _ = some (Value.int .i64 x.s) := hB6.cell' (i := 1) rfl
        have hk0 : (0 : Int) ≤ k := by omega
        have hk0l : (k : Int) < out.length := by omega
        have hc1 : r.c + 1 ≤ 9223372036854775807 := by omega
        have hc2 : 0 ≤ r.c := by omega
        have RC := Lib.hid (hG.grow ho1 ho2 hg)
        have M7 := Lib.hid hM7
        have R6 := Lib.hid (hR6.keep hk7 ng2)
        have PS := Lib.hid (packStep_some hg hk)
        have gneg : g ≠ g2 := by
          obtain ⟨cs, hb, _⟩ := hR
          obtain ⟨cs2, hb2, _⟩ := hO
          exact Blk.ne_ hb2 hb (by decide)
        have gnem : g ≠ mb := by obtain ⟨cs2, hb2, _⟩ := hO; exact hM.ne_blk hb2
        have O7 := Lib.hid ((((hO.keep hk1 (fun h => h)).keep hk5 gnem).keep hk6 gneg).keep hk7 gnem)
        have K7 := Lib.hid (Kept.newer (Kept.newer (Kept.newer (hkw.alloc (.cells #[.int .i64 x.t, .int .i64 x.s] 37)) hk5 hmb) hk6 hgb2) hk7 hmb)
        clear hdel0 hup0 hM7 hR6 hB1 hB5 hB6 hM6 hM5 hk5 hk6 hk7 hG ho1 ho2 hg hR5 hR hO hown hM hM1 hk hr hrc hget hk1 hpl
        go_wp2_with fail
        go_roundw
        case rel =>
          refine ⟨_, n + 1, _, rfl, by go_num, by omega, ?_, M7.out, ?_, O7.out, K7.out⟩
          · rw [SU.out, PS.out]
            have h7 : w7.ownsRow w.heap.size 69 3 (.slice (some ⟨g2, 0, none⟩) (out.set k r.up).length rc) (out.set k r.up).length (runE.flat (out.set k r.up)) := OwnAt.owns R6.out hgb2
            rw [List.length_set] at h7 ⊢
            exact h7
          · rw [SU.out]; exact RC.out
        case measure => simp [intOf]; omega
      | none =>
        rw [hg] at hget
        have hlk : (Instr.lookup 143 (.map (some mb)) (.agg #[.int .i64 x.t, .int .i64 x.s]) true).run Tryz.prog (wr.alloc (.cells #[.int .i64 x.t, .int .i64 x.s] 37)) = .ok (.tuple #[.int .i64 0, .bool false]) (wr.alloc (.cells #[.int .i64 x.t, .int .i64 x.s] 37)) := run_lookupK_none_ok (K := idK) (k := x) Tryz.underlying143 hM1 hget (by kernel_rfl)
        obtain ⟨i0, hi, hz0, hz1, hz2⟩ := info_parts info_run
        have I := Lib.hid hi
        have Z0 := Lib.hid hz0
        have Z1 := Lib.hid hz1
        have Z2 := Lib.hid hz2
        have hone : ∀ u ∈ [Value.int .i64 x.t, .int .i64 x.s, .int .i64 1], u.oneCell' = true := by simp [Value.oneCell']
        have H1 := Lib.hid hone
        have hnw : ∀ j u, [Value.int .i64 x.t, .int .i64 x.s, .int .i64 1][j]? = some u → ((wr.alloc (.cells #[.int .i64 x.t, .int .i64 x.s] 37)).alloc (.cells #[.int .i64 x.t, .int .i64 x.s, .int .i64 1] 69)).cell? ((⟨wr.heap.size + 1, 0, none⟩ : Addr).add j) = some u := fun j u hu => by
          rw [Addr.add_lit, Nat.zero_add]
          have hb := Blk.new (wr.alloc (.cells #[.int .i64 x.t, .int .i64 x.s] 37)) 69 #[.int .i64 x.t, .int .i64 x.s, .int .i64 1]
          rw [World.size_alloc] at hb
          refine hb.cell' ?_
          rw [← Array.getElem?_toList]
          exact hu
        have NW := Lib.hid hnw
        have hol : out.length ≤ 1000000 := by omega
        have h63 : out.length + 1 ≤ maxLen := by unfold maxLen; omega
        have hby : (out.length + 1) * 24 ≤ 140737488355328 := by omega
        have hbase : w.heap.size ≤ wr.heap.size := hkw.size
        have hown2 := (hown.alloc (.cells #[.int .i64 x.t, .int .i64 x.s] 37)).alloc (.cells #[.int .i64 x.t, .int .i64 x.s, .int .i64 1] 69)
        have OW := Lib.hid hown2
        have PS : Hid (packStep out x = out ++ [⟨x, 1⟩]) := by show packStep out x = _; unfold packStep; rw [hg]
        have RC := Lib.hid (hG.new ho1 ho2 hg)
        have hM2 := hM1.keep (Kept.alloc (Kept.refl (fun _ => False) _) (.cells #[.int .i64 x.t, .int .i64 x.s, .int .i64 1] 69)) (fun h => h)
        have hB2 := hB1.alloc (.cells #[.int .i64 x.t, .int .i64 x.s, .int .i64 1] 69)
        have hO2 := (hO.keep hk1 (fun h => h)).keep (Kept.alloc (Kept.refl (fun _ => False) _) (.cells #[.int .i64 x.t, .int .i64 x.s, .int .i64 1] 69)) (fun h => h)
        have hkw2 := (hkw.alloc (.cells #[.int .i64 x.t, .int .i64 x.s] 37)).alloc (.cells #[.int .i64 x.t, .int .i64 x.s, .int .i64 1] 69)
        have ob : (Value.slice ra out.length rc).ownBlock = none ∨ ∃ g2, (Value.slice ra out.length rc).ownBlock = some g2 ∧ w.heap.size ≤ g2 ∧ ∃ cs, Blk ((wr.alloc (.cells #[.int .i64 x.t, .int .i64 x.s] 37)).alloc (.cells #[.int .i64 x.t, .int .i64 x.s, .int .i64 1] 69)) g2 69 cs := by
          rcases hown2.2 with ⟨e, _⟩ | ⟨g2, c2, cur, e, h1, h2, _⟩
          · rw [e]; exact .inl rfl
          · rw [e]; exact .inr ⟨g2, rfl, h1, cur, h2⟩
        have OBM : ∀ b, MapK idK ((wr.alloc (.cells #[.int .i64 x.t, .int .i64 x.s] 37)).alloc (.cells #[.int .i64 x.t, .int .i64 x.s, .int .i64 1] 69)) b kvs → ¬ (Value.slice ra out.length rc).ownBlock = some b := fun b hm e => by
          rcases ob with e2 | ⟨g2, e2, _, cs, hb⟩
          · rw [e2] at e; cases e
          · rw [e2] at e; cases e; exact hm.ne_blk hb rfl
        have OBB : ∀ {cs0 : Array Value} (b : Nat), Blk ((wr.alloc (.cells #[.int .i64 x.t, .int .i64 x.s] 37)).alloc (.cells #[.int .i64 x.t, .int .i64 x.s, .int .i64 1] 69)) b 37 cs0 → ¬ (Value.slice ra out.length rc).ownBlock = some b := fun b hm e => by
          rcases ob with e2 | ⟨g2, e2, _, cs, hb⟩
          · rw [e2] at e; cases e
          · rw [e2] at e; cases e; exact Blk.ne_ hm hb (by decide) rfl
        have OB := Lib.hid ob
        have M2 := Lib.hid hM2
        have B2 := Lib.hid hB2
        have O2 := Lib.hid hO2
        have K2 := Lib.hid hkw2
        clear hi hz0 hz1 hz2 hone hnw hown hown2 hG ho1 ho2 hg hM hM1 hM2 hB1 hB2 hO hO2 hkw2 ob hget hk1
        go_wp2_with (at_builtin; (refine wpList_append_own _ rfl (.tmp 42) (.tmp 45) 38 rfl w.heap.size 69 i0 (.agg #[.int .i64 0, .int .i64 0, .int .i64 0]) 3 24 Tryz.underlying38 I.out Z0.out Z1.out Z2.out rfl (by decide) _ _ _ rfl OW.out ⟨wr.heap.size + 1, 0, none⟩ 1 1 [.int .i64 x.t, .int .i64 x.s, .int .i64 1] rfl rfl NW.out H1.out h63 hby (by simp; omega) ?_); (intro v' w5 hown5 hgrow0 _); have hgrow : World.grownBy _ w5 (Value.slice ra out.length rc).ownBlock := hgrow0; clear hgrow0; have hM5 := M2.out.keep (Kept.grown (Kept.refl (fun b => (Value.slice ra out.length rc).ownBlock = some b) _) hgrow (fun k e _ => e)) (OBM mb M2.out); obtain ⟨w7, hup0, hM7, hk7⟩ := run_updateK (P := Tryz.prog) (k := (⟨x.t + 1, x.s⟩ : ID)) Tryz.underlying143 hM5 (.int .i64 (out.length : Int)); have hup : (Instr.mapUpdate 143 (.map (some mb)) (.agg #[.int .i64 (x.t + 1), .int .i64 x.s]) (.int .i64 out.length)).run Tryz.prog w5 = .ok () w7 := hup0; have hB5 := B2.out.grown hgrow (OBB wr.heap.size B2.out); have b0 : _ = some (Value.int .i64 x.t) := hB5.cell' (i := 0) rfl; have b1 : _ = some (Value.int .i64 x.s) := hB5.cell' (i := 1) rfl; clear hup0)
        go_roundw
        case rel =>
          have hgb2 : ∀ b, (Value.slice ra out.length rc).ownBlock = some b → w.heap.size ≤ b := fun b e => by
            rcases OB.out with e2 | ⟨g2, e2, h2, _⟩
            · rw [e2] at e; cases e
            · rw [e2] at e; cases e; exact h2
          have hkg : Kept (fun b => (Value.slice ra out.length rc).ownBlock = some b) _ w5 := Kept.grown (Kept.refl _ _) hgrow (fun k e _ => e)
          have hO5 := O2.out.keep hkg (fun e => by obtain ⟨cs, hb, _⟩ := O2.out; exact OBB g hb e)
          have gnem : g ≠ mb := by obtain ⟨cs2, hb2, _⟩ := O2.out; exact M2.out.ne_blk hb2
          have hvm : ∀ b, v'.ownBlock = some b → b ≠ mb := fun b e => by
            rcases hown5.2 with ⟨e2, _⟩ | ⟨g2, c2, cur, e2, h1, h2, _⟩
            · rw [e2] at e; cases e
            · rw [e2] at e; cases e; exact hM5.ne_blk h2
          refine ⟨_, n + 1, _, rfl, by go_num, by omega, ?_, hM7, ?_, hO5.keep hk7 gnem, Kept.newer ((K2.out).trans hkg (fun i hi e => by have := hgb2 i e; omega)) hk7 hmb⟩
          · rw [SU.out, PS.out, runE.flat_append, runE.flat_one, List.length_append]
            have h7 := owns_keep hown5 hk7 (fun b e => hvm b e)
            exact h7
          · rw [SU.out]; exact RC.out
        case measure => simp [intOf]; omega
end Go.Proofs.YtlafodnaifghcaaGreat.St
namespace Go.Proofs.YtlafodnaifghcaaGreat.Tr
open Go.RowKit Go.Proofs.YtlafodnaifghcaaGreat.St Go.Shelf
attribute [local go_sem] Oper.semAt_some
/-- may so many be asked for -/
def spanOk (L : List Nd) (i n : Int) : Prop := 0 ≤ i ∧ 0 ≤ n ∧ i ≤ (shL L).length ∧ n ≤ (shL L).length - i
/-- the identifiers of n shown ones from i on -/
def spanL (L : List Nd) (i n : Int) (k : Nat) : List ID := (ids ((shL L).take k)).drop i.toNat |>.take n.toNat
theorem spanL_up {L : List Nd} {i n : Int} (h : spanOk L i n) {k : Nat} {m : Nd} (hm : (shL L)[k]? = some m) (h1 : i ≤ k) (h2 : (k : Int) < i + n) : spanL L i n (k + 1) = spanL L i n k ++ [m.id] ∧ (spanL L i n k).length = k - i.toNat := by
  have hk := (List.getElem?_eq_some_iff.1 hm).1
  obtain ⟨h3, h4, h5, h6⟩ := h
  have hl : (ids ((shL L).take k)).length = k := by simp [ids]; omega
  have e1 : spanL L i n k = (ids ((shL L).take k)).drop i.toNat := by
    unfold spanL; exact List.take_of_length_le (by rw [List.length_drop, hl]; omega)
  have e2 : spanL L i n (k + 1) = (ids ((shL L).take (k + 1))).drop i.toNat := by
    unfold spanL; exact List.take_of_length_le (by rw [List.length_drop]; simp [ids]; omega)
  refine ⟨?_, by rw [e1, List.length_drop, hl]⟩
  rw [e1, e2, List.take_add_one, hm]
  show List.drop i.toNat (ids (List.take k (shL L) ++ [m])) = _
  rw [ids_append, List.drop_append_of_le_length (by rw [hl]; omega)]
  rfl
theorem spanL_low {L : List Nd} {i n : Int} {k : Nat} (h1 : (k : Int) < i) : spanL L i n (k + 1) = spanL L i n k := by
  have e : ∀ j : Nat, (j : Int) ≤ i → spanL L i n j = [] := fun j hj => by
    unfold spanL
    rw [List.drop_eq_nil_of_le (by simp [ids]; omega), List.take_nil]
  rw [e k (by omega), e (k + 1) (by omega)]
theorem spanL_high {L : List Nd} {i n : Int} {k : Nat} (h0 : 0 ≤ i ∧ 0 ≤ n) (h1 : i + n ≤ (k : Int)) (hk : k < (shL L).length) : spanL L i n (k + 1) = spanL L i n k := by
  unfold spanL
  rw [List.take_add_one, List.getElem?_eq_getElem hk]
  show List.take n.toNat (List.drop i.toNat (ids (List.take k (shL L) ++ [_]))) = _
  have hl : (ids ((shL L).take k)).length = k := by simp [ids]; omega
  rw [ids_append, List.drop_append_of_le_length (by omega), List.take_append_of_le_length (by rw [List.length_drop, hl]; omega)]
/-- ahead of the rounds: the two boxes -/
structure SpanW (w : World) (g : Nat) (ix n : Int) (L : List Nd) (A : ID → Nat) (S : ID → Rw) (mp : Option Nat) (W : World) : Prop where
  cj : CJ w (w.heap.size + 2) (fun _ => False) [(w.heap.size, 3, #[.int .i64 ix]), (w.heap.size + 1, 3, #[.int .i64 n])] g L A S mp (fun _ => False) W
variable {w W : World} {g : Nat} {ix n : Int} {L : List Nd} {A : ID → Nat} {S : ID → Rw} {mp : Option Nat}
theorem SpanW.c0 (h : SpanW w g ix n L A S mp W) : W.cell? ⟨w.heap.size, 0, none⟩ = some (.int .i64 ix) := h.cj.cell 0 rfl 0 rfl
theorem SpanW.c1 (h : SpanW w g ix n L A S mp W) : W.cell? ⟨w.heap.size + 1, 0, none⟩ = some (.int .i64 n) := h.cj.cell 1 rfl 0 rfl
theorem SpanW.drew (h : SpanW w g ix n L A S mp W) : SpanW w g ix n L A S mp W.drew := ⟨h.cj.drew⟩
theorem span_len (_h : TAt w g L A S mp) (hdoc : Doc L) (hlen : L.length ≤ 900000) : ∀ W, SpanW w g ix n L A S mp W → Calls Tryz.prog 30 #[.pointer (some ⟨g, 0, none⟩)] W fun e w' => e = .returned (.int .i64 (shL L).length) ∧ SpanW w g ix n L A S mp w' := fun _ hW =>
  (len_any hW.cj.tree hdoc hlen).mono fun _ _ ⟨h1, h2⟩ => ⟨h1, ⟨hW.cj.step h2 fun _ h => h.elim⟩⟩
theorem span_start (h : TAt w g L A S mp) : SpanW w g ix n L A S mp ((w.alloc (.cells #[.int .i64 ix] 3)).alloc (.cells #[.int .i64 n] 3)) := by
  have h9 := ((CJ.start (M := fun _ => False) h).boxed #[.int .i64 ix] 3).boxed #[.int .i64 n] 3
  simp only [World.size_alloc] at h9
  exact ⟨h9⟩
set_option maxRecDepth 100000 in
set_option maxHeartbeats 8000000 in
theorem span_no (h : TAt w g L A S mp) (hdoc : Doc L) (hlen : L.length ≤ 900000) (hx : I64 ix ∧ I64 n) (hno : ¬ spanOk L ix n) :
    Calls Tryz.prog 23 #[.pointer (some ⟨g, 0, none⟩), .int .i64 ix, .int .i64 n] w fun e w' => e = .returned (.tuple #[.slice none 0 0, .int .i64 3]) ∧ Kept (fun _ => False) w w' := by
  refine (callsIn_wide (n := 6)).1 ?_
  unfold I64 at hx
  have hl2 := shL_le L
  have hln := span_len (ix := ix) (n := n) h hdoc hlen
  unfold spanOk at hno
  have HP0 := Lib.hid (span_start (ix := ix) (n := n) h).drew
  clear h hdoc
  obtain ⟨sl, hsl⟩ : ∃ sl : Int, ((shL L).length : Int) = sl := ⟨_, rfl⟩
  rw [hsl] at hln hno
  have hb1 : 0 ≤ sl := by omega
  have hb2 : sl ≤ 900000 := by omega
  have LN := Lib.hid hln
  have c0 := HP0.out.c0
  have c1 := HP0.out.c1
  clear hsl hl2 hlen hln
  refine callsIn_of_wp_marks Tryz.func23 rfl trivial ?_ rfl
  simp only [Tryz.ntmps23, List.size_toArray, List.length_cons, List.length_nil, Nat.reduceAdd, Nat.reduceSub, Array.replicate_succ, Array.replicate_zero, List.push_toArray, List.append_toArray, List.nil_append, List.cons_append]
  by_cases a1 : ix < 0
  · clear hno
    gi_wp2
    refine wpIn_region_quiet (C := SpanW w g ix n L A S mp) rfl (by kernel_rfl) (by kernel_rfl) HP0.out ?_
    simp only
    repeat
      refine wpQuietIn_step (fun _ _ _ _ => trivial) (fun K hK => ?_)
      go_simp
      first
        | (refine hK _ ?_; clear hK K)
        | (apply Exists.intro
           refine ⟨fun W hW => ?_, hK _ ?_⟩
           focus
             have d0 := hW.c0
             have d1 := hW.c1
             go_simp
             all_goals (first | exact rfl | exact ⟨rfl, rfl⟩ | exact callsIn_wide.2 (LN.out _ hW))
           clear hK K)
    refine wpQuietIn_nil ?_
    intro W' hW'
    clear c0 c1
    gi_wp2
    exact ⟨_, results_tmp2 rfl _ _ _, rfl, hW'.cj.kept⟩
  · by_cases a2 : n < 0
    · clear hno
      gi_wp2
      refine wpIn_region_quiet (C := SpanW w g ix n L A S mp) rfl (by kernel_rfl) (by kernel_rfl) HP0.out ?_
      simp only
      repeat
        refine wpQuietIn_step (fun _ _ _ _ => trivial) (fun K hK => ?_)
        go_simp
        first
          | (refine hK _ ?_; clear hK K)
          | (apply Exists.intro
             refine ⟨fun W hW => ?_, hK _ ?_⟩
             focus
               have d0 := hW.c0
               have d1 := hW.c1
               go_simp
               all_goals (first | exact rfl | exact ⟨rfl, rfl⟩ | exact callsIn_wide.2 (LN.out _ hW))
             clear hK K)
      refine wpQuietIn_nil ?_
      intro W' hW'
      clear c0 c1
      gi_wp2
      exact ⟨_, results_tmp2 rfl _ _ _, rfl, hW'.cj.kept⟩
    · by_cases a3 : sl < ix
      · clear hno
        gi_wp2
        refine wpIn_region_quiet (C := SpanW w g ix n L A S mp) rfl (by kernel_rfl) (by kernel_rfl) HP0.out ?_
        simp only
        repeat
          refine wpQuietIn_step (fun _ _ _ _ => trivial) (fun K hK => ?_)
          go_simp
          first
            | (refine hK _ ?_; clear hK K)
            | (apply Exists.intro
               refine ⟨fun W hW => ?_, hK _ ?_⟩
               focus
                 have d0 := hW.c0
                 have d1 := hW.c1
                 go_simp
                 all_goals (first | exact rfl | exact ⟨rfl, rfl⟩ | exact callsIn_wide.2 (LN.out _ hW))
               clear hK K)
        refine wpQuietIn_nil ?_
        intro W' hW'
        clear c0 c1
        gi_wp2
        exact ⟨_, results_tmp2 rfl _ _ _, rfl, hW'.cj.kept⟩
      · have a4 : sl - ix < n := by omega
        have b1 : decide (ix < 0) = false := decide_eq_false a1
        have b2 : decide (n < 0) = false := decide_eq_false a2
        have b3 : decide (sl < ix) = false := decide_eq_false a3
        have b5 : IntKind.i64.wrap (sl - ix) = sl - ix := IntWalk.i64_in _ (by omega)
        have b4 : decide (IntKind.i64.wrap (sl - ix) < n) = true := by rw [b5]; exact decide_eq_true a4
        clear hno b5 a1 a2 a3 a4
        gi_wp2
        refine wpIn_region_quiet (C := SpanW w g ix n L A S mp) rfl (by kernel_rfl) (by kernel_rfl) HP0.out ?_
        simp only
        repeat
          refine wpQuietIn_step (fun _ _ _ _ => trivial) (fun K hK => ?_)
          go_simp
          first
            | (refine hK _ ?_; clear hK K)
            | (apply Exists.intro
               refine ⟨fun W hW => ?_, hK _ ?_⟩
               focus
                 have d0 := hW.c0
                 have d1 := hW.c1
                 go_simp
                 all_goals (first | exact rfl | exact ⟨rfl, rfl⟩ | exact callsIn_wide.2 (LN.out _ hW))
               clear hK K)
        refine wpQuietIn_nil ?_
        intro W' hW'
        clear c0 c1
        gi_wp2
        exact ⟨_, results_tmp2 rfl _ _ _, rfl, hW'.cj.kept⟩
end Go.Proofs.YtlafodnaifghcaaGreat.Tr
namespace Go.Proofs.YtlafodnaifghcaaGreat.Tr
open Go.RowKit Go.Proofs.YtlafodnaifghcaaGreat.St Go.Shelf
attribute [local go_sem] Oper.semAt_some
def spanB (z y g : Nat) (i n : Int) (v : Value) : List Box :=
  [(z, 3, #[.int .i64 i]), (z + 1, 3, #[.int .i64 n]), (y, 98, #[v]), (y + 1, 25, #[.pointer (some ⟨g, 0, none⟩)])]
theorem spanB_nodup {z y : Nat} (hy : z + 2 ≤ y) (g : Nat) (i n : Int) (v : Value) : ((spanB z y g i n v).map (·.1)).Nodup := by
  simp [spanB]
  omega
theorem CJ.raise {w W : World} {B : Nat} {M : Nat → Prop} {bs : List Box} {g : Nat} {L : List Nd} {A : ID → Nat} {S : ID → Rw} {mp : Option Nat} (h : CJ w B M bs g L A S mp (fun _ => False) W) : CJ w W.heap.size M bs g L A S mp (fun _ => False) W :=
  { box := fun x hx => ⟨⟨(h.box x hx).1.1, Nat.lt_of_lt_of_le (h.box x hx).1.2 h.size.2⟩, (h.box x hx).2⟩
    tree := h.tree, low := h.low, far := fun _ h => h.elim, size := ⟨Nat.le_trans h.size.1 h.size.2, Nat.le_refl _⟩, kept := h.kept }
def spanJ (w : World) (y B g : Nat) (ix n : Int) (L : List Nd) (A : ID → Nat) (S : ID → Rw) (mp : Option Nat) (i : Nat) (X : Nat → Prop) (W : World) : Prop :=
  Gro idE 37 w B (fun _ => False) (spanB w.heap.size y g ix n) g L A S mp (spanL L ix n i) X W
variable {w W : World} {g : Nat} {ix n : Int} {L : List Nd} {A : ID → Nat} {S : ID → Rw} {mp : Option Nat}
set_option maxRecDepth 100000 in
set_option maxHeartbeats 8000000 in
theorem span_ok (h : TAt w g L A S mp) (hdoc : Doc L) (hlen : L.length ≤ 900000) (hok : spanOk L ix n) :
    Calls Tryz.prog 23 #[.pointer (some ⟨g, 0, none⟩), .int .i64 ix, .int .i64 n] w fun e w' => (∃ v T, e = .returned (.tuple #[v, .int .i64 0]) ∧ SetOf (spanL L ix n (shL L).length) T ∧ w'.ownsRow w.heap.size 69 3 v (packL T).length (runE.flat (packL T))) ∧ Kept (fun _ => False) w w' := by
  refine (callsIn_wide (n := 6)).1 ?_
  have hl2 := shL_le L
  have hln := span_len (ix := ix) (n := n) h hdoc hlen
  have OK := Lib.hid hok
  have HL := Lib.hid hlen
  have HD := Lib.hid hdoc
  unfold spanOk at hok
  have HP0 := Lib.hid (span_start (ix := ix) (n := n) h).drew
  clear h hdoc
  obtain ⟨sl, hsl⟩ : ∃ sl : Int, ((shL L).length : Int) = sl := ⟨_, rfl⟩
  rw [hsl] at hln hok
  have hb1 : 0 ≤ sl := by omega
  have hb2 : sl ≤ 900000 := by omega
  have LN := Lib.hid hln
  have SL := Lib.hid hsl
  have c0 := HP0.out.c0
  have c1 := HP0.out.c1
  obtain ⟨o1, o2, o3, o4⟩ := hok
  have b1 : decide (ix < 0) = false := decide_eq_false (by omega)
  have b2 : decide (n < 0) = false := decide_eq_false (by omega)
  have b3 : decide (sl < ix) = false := decide_eq_false (by omega)
  have b5 : IntKind.i64.wrap (sl - ix) = sl - ix := IntWalk.i64_in _ (by omega)
  have b4 : decide (IntKind.i64.wrap (sl - ix) < n) = false := by rw [b5]; exact decide_eq_false (by omega)
  have O := Lib.hid (And.intro o1 (And.intro o2 (And.intro o3 o4)))
  clear hsl hl2 hlen hln b5 o1 o2 o3 o4
  refine callsIn_of_wp_marks Tryz.func23 rfl trivial ?_ rfl
  simp only [Tryz.ntmps23, List.size_toArray, List.length_cons, List.length_nil, Nat.reduceAdd, Nat.reduceSub, Array.replicate_succ, Array.replicate_zero, List.push_toArray, List.append_toArray, List.nil_append, List.cons_append]
  gi_wp2
  refine wpIn_region_quiet (C := SpanW w g ix n L A S mp) rfl (by kernel_rfl) (by kernel_rfl) HP0.out ?_
  simp only
  repeat
    refine wpQuietIn_step (fun _ _ _ _ => trivial) (fun K hK => ?_)
    go_simp
    first
      | (refine hK _ ?_; clear hK K)
      | (apply Exists.intro
         refine ⟨fun W hW => ?_, hK _ ?_⟩
         focus
           have d0 := hW.c0
           have d1 := hW.c1
           go_simp
           all_goals (first | exact rfl | exact ⟨rfl, rfl⟩ | exact callsIn_wide.2 (LN.out _ hW))
         clear hK K)
  refine wpQuietIn_nil ?_
  intro W1 hW1
  clear c0 c1
  have HW1 := Lib.hid hW1
  clear hW1
  gi_wp2_with (refine ⟨trivial, ?_⟩; gi_at_call 51; refine (callsIn_wide.2 (shown_any g _)).mono ?_; rintro e w' ⟨rfl, rfl⟩)
  have hy0 : w.heap.size + 2 ≤ W1.heap.size := HW1.out.cj.size.2
  have hcj := HW1.out.cj
  obtain ⟨y, hy⟩ : ∃ y, W1.heap.size = y := ⟨_, rfl⟩
  obtain ⟨W0, hW0⟩ : ∃ W0, ((W1.alloc (.cells #[.slice none 0 0] 98)).alloc (.cells #[.pointer (some ⟨g, 0, none⟩)] 25)) = W0 := ⟨_, rfl⟩
  have hC : CJ w W0.heap.size (fun _ => False) (spanB w.heap.size y g ix n (.slice none 0 0)) g L A S mp (fun _ => False) W0 := by
    rw [← hW0, ← hy]
    have h9 := (hcj.raise.boxed #[.slice none 0 0] 98).boxed #[.pointer (some ⟨g, 0, none⟩)] 25
    simp only [World.size_alloc] at h9 ⊢
    exact h9
  rw [hW0, hy]
  rw [hy] at hy0
  have HY0 := Lib.hid hy0
  clear hW0 hcj hy hy0
  refine wpIn_iter rfl (by decide) (gf := 85) (lb := #[.pointer (some ⟨y + 1, 0, none⟩)]) rfl trivial (enters_of Tryz.func85 (by kernel_rfl) rfl) (shown1_iter (A := A) (S := S) (g := g) (mp := mp) HD.out HL.out) (fun _ _ => rfl) W0.heap.size rfl (spanJ w y W0.heap.size g ix n L A S mp) (fun _ _ _ => False) ?hrd ?hgr ?hgx ?hob ?hox ?h0 ?round ?done ?stop
  case hrd => rintro i X W ⟨v, hJ, _⟩; exact ⟨hJ.cell 3 rfl 0 rfl, hJ.tree⟩
  case hgr => intro i X W W' hJ hk; exact Gro.grow hJ hk
  case hgx => intro c X W W' h _; exact h
  case hob => intro i X W o' hJ; exact Gro.put hJ o'
  case hox => intro c X W o' hJ; exact hJ
  case h0 =>
    intro o1 o2
    have h8 : spanL L ix n 0 = [] := by unfold spanL; simp [ids]
    have h9 : Gro idE 37 w W0.heap.size (fun _ => False) (spanB w.heap.size y g ix n) g L A S mp [] (fun _ => False) W0 := ⟨_, hC, World.ownsRow_nil .., fun b hb => by cases hb⟩
    show Gro _ _ _ _ _ _ _ _ _ _ _ _ _ _
    rw [h8]
    exact (h9.alloc o1).alloc o2
  case round =>
    intro i W K hi hK
    have hm := nth_lt hi
    unfold shEnc
    generalize nth (shL L) i = m at *
    gi_wp2
    rintro X W h2 ⟨v, hJ, hO, hX⟩
    have hmL : m ∈ L := (List.mem_filter.1 (List.mem_of_getElem? hm)).1
    have he := hJ.tree.elt m hmL
    have e0 : W.cell? ⟨A m.id, 0, none⟩ = some (.int .i64 m.id.t) := he.cell' rfl
    have e1 : W.cell? ⟨A m.id, 1, none⟩ = some (.int .i64 m.id.s) := he.cell' rfl
    have d0 : W.cell? ⟨w.heap.size, 0, none⟩ = some (.int .i64 ix) := hJ.cell 0 rfl 0 rfl
    have d1 : W.cell? ⟨w.heap.size + 1, 0, none⟩ = some (.int .i64 n) := hJ.cell 1 rfl 0 rfl
    have hle := shL_le L
    have hi2 : (i : Int) ≤ 900000 := by have := HL.out; omega
    have hi3 : (0 : Int) ≤ i := by omega
    have p1 : 0 ≤ ix := O.out.1
    have p2 : 0 ≤ n := O.out.2.1
    have p3 : ix ≤ 900000 := by have := O.out; omega
    have p4 : n ≤ 900000 := by have := O.out; omega
    have HJ := Lib.hid hJ
    have HO := Lib.hid hO
    have HX := Lib.hid hX
    have H2 := Lib.hid h2
    have HM := Lib.hid hm
    have HI := Lib.hid hi
    clear hm hle he hmL
    by_cases q1 : ix ≤ (i : Int)
    · by_cases q2 : (i : Int) < ix + n
      · obtain ⟨u1, u2⟩ := spanL_up OK.out HM.out q1 q2
        have g1 : decide (ix ≤ (i : Int)) = true := decide_eq_true q1
        have g2 : decide ((i : Int) < ix + n) = true := decide_eq_true q2
        obtain ⟨N, hN⟩ : ∃ N, (spanL L ix n i).length = N := ⟨_, rfl⟩
        have hN1 : N ≤ 1000000 := by have := O.out; have := HL.out; omega
        have n1 : ¬ A m.id = y := by have := hJ.low (A m.id) (.inr (.inr (.inl ⟨m.id, List.mem_map.2 ⟨m, (List.mem_filter.1 (List.mem_of_getElem? HM.out)).1, rfl⟩, rfl⟩))); have := HY0.out; omega
        have hlit : SlAt idE (W.drew.alloc (.cells #[.int .i64 m.id.t, .int .i64 m.id.s] 37)) (.slice (some ⟨W.heap.size, 0, none⟩) 1 1) [m.id] := SlAt.lit [m.id] _ (by simp [Enc.flat, idE]) (by unfold maxLen; simp)
        have hk1 : Kept (fun _ => False) W (W.drew.alloc (.cells #[.int .i64 m.id.t, .int .i64 m.id.s] 37)) := ((Kept.refl _ _).drew).alloc _
        have hown := owns_keep hO hk1 (fun _ _ h => h)
        obtain ⟨va, vc, rfl⟩ := owns_sl hO
        rw [show Value.slice va (spanL L ix n i).length vc = .slice va N vc by rw [hN]] at hown hO hJ hX
        have HJ := Lib.hid hJ
        have HO := Lib.hid hO
        have HX := Lib.hid hX
        have HOWN := Lib.hid hown
        have HK1 := Lib.hid hk1
        have HB := Lib.hid (show W0.heap.size + 2 ≤ (W.drew.alloc (.cells #[.int .i64 m.id.t, .int .i64 m.id.s] 37)).heap.size by have := H2.out; simp; omega)
        have HLIT := Lib.hid hlit
        have HLEN : Hid ((spanL L ix n i).length ≤ 1000000) := Lib.hid (by rw [hN]; exact hN1)
        have HLI := Lib.hid hN
        have U1 := Lib.hid u1
        have d2 : W.cell? ⟨y, 0, none⟩ = some (.slice va N vc) := hJ.cell 2 rfl 0 rfl
        have f2 := hJ.frozen 2 rfl 0
        have hyl : y < W.heap.size := (hJ.at_ 2 rfl).lt
        clear hJ hO hX hlit hk1 hown hN u1 u2 h2 hi q1 q2
        gi_wp2
        refine region_any (GroR idE 37 w W0.heap.size (fun _ => False) (spanB w.heap.size y g ix n) g L A S mp (spanL L ix n i ++ [m.id]) X W) ?_ ?_
        focus
          gi_region_with ((refine step_append_in (w := W.drew.alloc (.cells #[.int .i64 m.id.t, .int .i64 m.id.s] 37)) idE (.tmp 49) (.tmp 55) 98 rfl (W0.heap.size + 2) 37 (.agg #[.int .i64 0, .int .i64 0]) 16 Tryz.underlying98 info_id rfl (by decide) rfl rfl (by go_simp) HOWN.out HLIT.out HLEN.out HB.out ?_; rintro v2 w2 ho2 hg2; have hJ2 := Gro.after HJ.out HO.out HK1.out hg2; rw [HLI.out] at ho2; obtain ⟨va2, vc2, rfl⟩ := owns_sl ho2; have z2 : w2.cell? ⟨y, 0, none⟩ = some (.slice va N vc) := hJ2.cell 2 rfl 0 rfl; have zf := hJ2.frozen 2 rfl 0; clear hJ2))
          all_goals exact ⟨rfl, Gro.appended HJ.out HO.out HX.out H2.out HK1.out hg2 (by rw [HLI.out]) ho2 2 rfl (spanB_nodup HY0.out ..) rfl⟩
        rintro a' W' ⟨ho, hG⟩
        gi_wp2
        refine ⟨ho.1, ho.2, ?_⟩
        show Gro _ _ _ _ _ _ _ _ _ _ _ _ _ _
        rw [U1.out]
        exact hG
      · have u1 := spanL_high (L := L) ⟨O.out.1, O.out.2.1⟩ (by omega) HI.out
        have g1 : decide (ix ≤ (i : Int)) = true := decide_eq_true q1
        have g2 : decide ((i : Int) < ix + n) = false := decide_eq_false q2
        have U1 := Lib.hid u1
        clear hJ hO hX u1 h2 hi q1 q2
        gi_wp2
        refine ⟨fun _ _ => rfl, Nat.le_refl _, ?_⟩
        show Gro _ _ _ _ _ _ _ _ _ _ _ _ _ _
        rw [U1.out]
        exact ⟨v, HJ.out, HO.out, HX.out⟩
    · have u1 := spanL_low (L := L) (i := ix) (n := n) (k := i) (by omega)
      have g1 : decide (ix ≤ (i : Int)) = false := decide_eq_false q1
      have U1 := Lib.hid u1
      clear hJ hO hX u1 h2 hi q1
      gi_wp2
      refine ⟨fun _ _ => rfl, Nat.le_refl _, ?_⟩
      show Gro _ _ _ _ _ _ _ _ _ _ _ _ _ _
      rw [U1.out]
      exact ⟨v, HJ.out, HO.out, HX.out⟩
  case done =>
    rintro X W ⟨v, hJ, hO, hX⟩ hK
    obtain ⟨va, vc, rfl⟩ := owns_sl hO
    have hpl : (spanL L ix n (shL L).length).length ≤ 1000000 := by
      unfold spanL
      have h1 := List.length_take_le n.toNat (List.drop ix.toNat (ids (List.take (shL L).length (shL L))))
      have h2 := O.out
      have h3 := HL.out
      have h4 := shL_le L
      have h5 := SL.out
      omega
    have hpk := pack_any (owns_slAt hO) hpl
    have d2 : W.cell? ⟨y, 0, none⟩ = some (.slice va (spanL L ix n (shL L).length).length vc) := hJ.cell 2 rfl 0 rfl
    have HJ := Lib.hid hJ
    have HK := Lib.hid hK
    have HP := Lib.hid hpk
    clear hJ hO hX hK hpl hpk
    gi_wp2_with (refine ⟨trivial, ?_⟩; gi_at_call 61; refine (callsIn_wide.2 HP.out).mono ?_; rintro e w2 ⟨v2, T, rfl, hT, hO2, hk2⟩)
    have hs1 := HJ.out.size
    have hC2 := (HJ.out.step hk2 fun _ h => h.elim).taken (.deferred none)
    refine ret_range ((hk2.block _ (Array.getElem?_eq_some_iff.1 HK.out).1 (fun h => h)).trans HK.out) (results_tmp2 rfl _ _ _) ⟨⟨v2, T, rfl, hT, ?_⟩, hC2.kept⟩
    have hO3 := owns_keep hO2 (kept_put w2 W0.heap.size (.deferred none)) fun b hb e => by have := (owns_lt hO2 b hb).1; have := (Array.getElem?_eq_some_iff.1 HK.out).1; omega
    refine ⟨hO3.1, ?_⟩
    rcases hO3.2 with h5 | ⟨g', cap, cur, e1, e2, e3⟩
    · exact .inl h5
    · exact .inr ⟨g', cap, cur, e1, by omega, e3⟩
  case stop =>
    rintro c X W h _
    exact h.elim
end Go.Proofs.YtlafodnaifghcaaGreat.Tr
