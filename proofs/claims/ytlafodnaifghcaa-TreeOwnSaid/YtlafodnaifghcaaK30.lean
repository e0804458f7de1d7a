/- stamp.Pack, walked. -/
import Derived.Test.YtlafodnaifghcaaK29
namespace Go.Proofs.Ytlafodnaifghcaa.St
open Go.RowKit

theorem index_nil (w : World) : Calls Try.prog 77 #[.slice none 0 0, .func (.func 58) #[] #[]] w fun e w' => e = .returned (.int .i64 (-1)) ∧ w = w' := by
  go_enter Try.func77, Try.ntmps77
  go_wp2
  refine wp_loop_rounds 1 ?_
  rw [rounds_succ]
  go_wp2
  go_ret
  exact ⟨rfl, rfl⟩
theorem delete_nil (w : World) : Calls Try.prog 56 #[.slice none 0 0, .func (.func 58) #[] #[]] w fun e w' => e = .returned (.slice none 0 0) ∧ w = w' := by
  go_enter Try.func56, Try.ntmps56
  go_wp2_with fail
  refine (index_nil _).mono ?_
  rintro e w1 ⟨rfl, rfl⟩
  go_wp2_with fail
  go_ret
  exact ⟨rfl, rfl⟩
theorem sort_nil (w : World) : Calls Try.prog 60 #[.slice none 0 0, .func (.func 53) #[] #[]] w fun e w' => e = .returned (.tuple #[]) ∧ w = w' :=
  (AnyF.slices_SortFunc_none sortID none 0 _ w).mono fun _ _ ⟨h1, h2⟩ => ⟨h1, h2.symm⟩
theorem compact_all {w : World} {t : TypeId} {g cap : Nat} {D : List ID} (h : OwnAt idE w t g cap D) (hb : D.length ≤ 1000000000) :
    Calls Try.prog 61 #[.slice (some ⟨g, 0, none⟩) D.length cap] w fun e w' => e = .returned (.slice (some ⟨g, 0, none⟩) (dd D).length cap) ∧ OwnAt idE w' t g cap (dd D) ∧ Kept (· = g) w w' := by
  by_cases h2 : 2 ≤ D.length
  · exact compact_id h hb h2
  · refine (compact_short rfl (by omega)).mono ?_
    rintro e w' ⟨rfl, rfl⟩
    rw [dd_short (by omega)]
    exact ⟨rfl, h, Kept.refl _ _⟩
theorem setOf_dd {L D' : List ID} (hp : D'.Perm (L.filter isB)) (hs : Sorted D') : SetOf L (dd D') := by
  refine ⟨dd_rising hs, fun x => ?_⟩
  rw [dd_mem, hp.mem_iff, List.mem_filter]
  simp [isB]

theorem OwnAt.run {w : World} {t : TypeId} {g cap : Nat} {D : List Run} (h : OwnAt runE w t g cap D) {i : Nat} {x : Run} (hx : D[i]? = some x) :
    w.cell? ⟨g, i * 3, none⟩ = some (.int .i64 x.id.t) ∧ w.cell? ⟨g, i * 3 + 1, none⟩ = some (.int .i64 x.id.s) ∧ w.cell? ⟨g, i * 3 + 2, none⟩ = some (.int .i64 x.c) := ⟨h.cell (j := 0) hx rfl, h.cell (j := 1) hx rfl, h.cell (j := 2) hx rfl⟩
theorem packStep_some {out : List Run} {x : ID} {k : Nat} {r : Run} (hg : growAt out x = some k) (hk : out[k]? = some r) : packStep out x = out.set k r.up := by
  have hkl : k < out.length := (List.getElem?_eq_some_iff.1 hk).1
  unfold packStep
  rw [hg]
  apply List.ext_getElem?
  intro i
  show (out.modify k Run.up)[i]? = _
  rw [modify_get hk, List.getElem?_set]
  by_cases h : k = i
  · subst h; simp [hkl]
  · simp [h]
/-- where Pack's loop stands -/
def PackRel (w : World) (g cap mb : Nat) (S : List ID) (rv iv : Value) (wr : World) : Prop :=
  ∃ (v : Value) (n : Nat) (kvs : List (ID × Value)), v = rv ∧ iv = .int .i64 n ∧ n ≤ S.length ∧ wr.ownsRow w.heap.size 61 3 v (packL (S.take n)).length (runE.flat (packL (S.take n))) ∧ MapK idK wr mb kvs ∧ GrowsOk kvs (packL (S.take n)) ∧ OwnAt idE wr 27 g cap S ∧ Kept (fun _ => False) w wr
theorem Kept.newer {w w1 w2 : World} {b : Nat} (h : Kept (fun _ => False) w w1) (k : Kept (· = b) w1 w2) (hb : w.heap.size ≤ b) : Kept (fun _ => False) w w2 := h.trans k fun i hi e => by omega
set_option maxRecDepth 100000 in
set_option maxHeartbeats 4000000 in
theorem pack_any {w : World} {v : Value} {L : List ID} (h : SlAt idE w v L) (hb : L.length ≤ 1000000) : Calls Try.prog 32 #[v] w fun e w' => ∃ v' S, e = .returned v' ∧ SetOf L S ∧ w'.ownsRow w.heap.size 61 3 v' (packL S).length (runE.flat (packL S)) ∧ Kept (fun _ => False) w w' := by
  have hmm := @run_makeMap Try.prog
  go_enter Try.func32, Try.ntmps32
  go_wp2_with fail
  refine (clone_id h (by omega)).mono ?_
  rintro e w1 ⟨v1, rfl, ho, hk1⟩
  obtain ⟨_, ho | ⟨g, cap, rfl, hgb, hO⟩⟩ := own_of (E := idE) ho
  · obtain ⟨rfl, rfl⟩ := ho
    clear h
    go_wp2_with fail
    refine (delete_nil _).mono ?_
    rintro e w2 ⟨rfl, rfl⟩
    go_wp2_with fail
    refine (sort_nil _).mono ?_
    rintro e w2 ⟨rfl, rfl⟩
    go_wp2_with fail
    refine (compact_short (n := 0) rfl (by omega)).mono ?_
    rintro e w2 ⟨rfl, rfl⟩
    go_wp2_with fail
    refine wp_loop_rounds 1 ?_
    rw [rounds_succ]
    go_wp2_with fail
    go_ret
    exact ⟨_, [], rfl, ⟨List.Pairwise.nil, fun x => by simp⟩, World.ownsRow_nil _ _ _ _, hk1.alloc _⟩
  have hOl := hO.le
  clear ho h
  go_wp2_with fail
  refine (delete_id hO (by omega)).mono ?_
  rintro e w2 ⟨rfl, hO2, hk2⟩
  have hl2 := List.length_filter_le isB L
  go_wp2_with fail
  refine (sort_id hO2 (by omega)).mono ?_
  rintro e w3 ⟨rfl, D', hp, hs, hO3, hk3⟩
  have hl3 := hp.length_eq
  have HL := Lib.hid hl3
  rw [← hl3]
  have hDl : D'.length ≤ 1000000 := by omega
  clear hl3
  go_wp2_with fail
  refine (compact_all (hO3.keep ((Kept.refl (fun _ => False) w3).alloc (.map #[] 0)) (fun h => h)) (by omega)).mono ?_
  rintro e w4 ⟨rfl, hO4, hk4⟩
  have hset := setOf_dd hp hs
  have hSl : (dd D').length ≤ 1000000 := by have := dd_len D'; omega
  have hkw : Kept (fun _ => False) w w4 := by
    have a1 := Kept.newer hk1 hk2 hgb
    have a2 := Kept.newer a1 hk3 hgb
    exact Kept.newer (a2.alloc _) hk4 hgb
  have hmap : MapK idK w4 w3.heap.size [] := (MapK.made w3).keep hk4 (fun e => by have := hO3.lt; omega)
  have hmb : w.heap.size ≤ w3.heap.size := by have := hk1.size; have := hk2.size; have := hk3.size; omega
  have HK := Lib.hid hkw
  have HM := Lib.hid hmap
  have HS := Lib.hid hset
  clear hkw hmap hset HL hp hs hO3 hk3 hO2 hk2 hO hk1 hk4 hl2
  generalize dd D' = S at *
  generalize w3.heap.size = mb at *
  go_wp2_with fail
  go_loopw [4, 19] (fun rv iv wr => PackRel w g cap mb S rv iv wr) (fun _ iv _ => S.length - (intOf iv).toNat)
  case atStart => exact ⟨.slice none 0 0, 0, [], rfl, rfl, Nat.zero_le _, World.ownsRow_nil _ _ _ _, HM.out, ⟨List.nodup_nil, fun x => rfl⟩, hO4, HK.out⟩
  case round =>
    clear hO4 HM HK
    obtain ⟨rv, n, kvs, rfl, rfl, hn, hown, hM, hG, hO, hkw⟩ := hrel
    by_cases hlt : n < S.length
    case neg =>
      have hge : S.length ≤ n := by omega
      rw [List.take_of_length_le hge] at hown
      have OW := Lib.hid hown
      clear hown hG
      go_wp2_with fail
      go_ret
      exact ⟨_, S, rfl, HS.out, OW.out, hkw⟩
    case pos =>
      obtain ⟨ra, rc, rfl⟩ := owns_sl hown
      obtain ⟨x, hx⟩ := get_of_lt hlt
      obtain ⟨c0, c1⟩ := OwnAt.id hO hx
      have hIs : x.Is := ((HS.out.2 x).1 (List.mem_of_getElem? hx)).2
      unfold ID.Is at hIs
      obtain ⟨i1, i2, i3, i4⟩ := hIs
      have ho1 := packOk_take HS.out.1 n hn
      have ho2 := packOk_take HS.out.1 (n + 1) hlt
      have hpl := packL_len (S.take n)
      rw [List.length_take] at hpl
      have hids : ∀ r ∈ packL (S.take n), 1 ≤ r.id.t := fun r hr => ((HS.out.2 r.id).1 (List.mem_of_mem_take (packL_ids _ r hr))).2.1
      have hsucc := packL_take_succ hx
      have X0 := Lib.hid hx
      clear hx
      generalize packL (S.take n) = out at *
      rw [hsucc] at ho2
      have SU := Lib.hid hsucc
      have ID1 := Lib.hid hids
      clear hsucc hids
      have hn0 : (0 : Int) ≤ n := by omega
      have hnl : (n : Int) < S.length := by omega
      have nbm : wr.heap.size ≠ mb := Nat.ne_of_gt hM.lt
      have hk1 : Kept (fun _ => False) wr (wr.alloc (.cells #[.int .i64 x.t, .int .i64 x.s] 27)) := (Kept.refl _ _).alloc _
      have hM1 : MapK idK (wr.alloc (.cells #[.int .i64 x.t, .int .i64 x.s] 27)) mb kvs := hM.keep hk1 (fun h => h)
      have hB1 := Blk.new wr 27 #[.int .i64 x.t, .int .i64 x.s]
      have hget := hG.2 x
      cases hg : growAt out x with
      | some k =>
        rw [hg] at hget
        obtain ⟨r, hk, hr⟩ := growAt_some hg
        have hkl : k < out.length := (List.getElem?_eq_some_iff.1 hk).1
        have hlk : (Instr.lookup 123 (.map (some mb)) (.agg #[.int .i64 x.t, .int .i64 x.s]) true).run Try.prog (wr.alloc (.cells #[.int .i64 x.t, .int .i64 x.s] 27)) = .ok (.tuple #[.int .i64 k, .bool true]) (wr.alloc (.cells #[.int .i64 x.t, .int .i64 x.s] 27)) := run_lookupK_ok (K := idK) (k := x) Try.underlying123 hM1 hget
        obtain ⟨w5, hdel0, hM5, hk5⟩ := run_deleteK (P := Try.prog) (k := x) Try.underlying123 0 hM1
        have hdel : (Builtin.delete_ #[123, 27] 0 #[.map (some mb), .agg #[.int .i64 x.t, .int .i64 x.s]]).run Try.prog (wr.alloc (.cells #[.int .i64 x.t, .int .i64 x.s] 27)) = .ok (.tuple #[]) w5 := hdel0
        obtain ⟨_, hno | ⟨g2, cap2, hv2, hgb2, hR⟩⟩ := own_of (E := runE) hown
        · obtain ⟨_, rfl⟩ := hno; simp at hkl
        cases hv2
        have ng2 : g2 ≠ mb := by obtain ⟨cs, hb, _⟩ := hR; exact hM.ne_blk hb
        have ngb : g2 ≠ wr.heap.size := Nat.ne_of_lt hR.lt
        have hR5 := (hR.keep hk1 (fun h => h)).keep hk5 ng2
        obtain ⟨r0, r1, r2⟩ := OwnAt.run hR5 hk
        have rf := hR5.frozen (k * 3 + 2)
        have hB5 := hk5.blk (fun e => nbm e) hB1
        have hR6 := OwnAt.set1of3 (m := 2) (y := r.up) hR5 hk (by decide) (by rfl : runE.enc r.up = (runE.enc r).set 2 (.int .i64 (r.c + 1)))
        have hB6 := hB5.far (p := ⟨g2, k * 3 + 2, none⟩) (fun e => ngb e.symm) (.int .i64 (r.c + 1))
        have hk6 : Kept (· = g2) w5 (w5.setCell ⟨g2, k * 3 + 2, none⟩ (.int .i64 (r.c + 1))) := Kept.setCell (Kept.refl (· = g2) w5) (p := ⟨g2, k * 3 + 2, none⟩) (fun _ => rfl) _
        have hM6 := hM5.keep hk6 (fun e => ng2 e.symm)
        have hrc : r.c = x.t - r.id.t := by have := congrArg ID.t hr; simp only [Run.next] at this; omega
        have hr1 := ID1.out r (List.mem_of_getElem? hk)
        have hr2 := ho1.pos r (List.mem_of_getElem? hk)
        obtain ⟨w7, hup0, hM7, hk7⟩ := run_updateK (P := Try.prog) (k := (⟨x.t + 1, x.s⟩ : ID)) Try.underlying123 hM6 (.int .i64 (k : Int))
        have hup : (Instr.mapUpdate 123 (.map (some mb)) (.agg #[.int .i64 (x.t + 1), .int .i64 x.s]) (.int .i64 k)).run Try.prog (w5.setCell ⟨g2, k * 3 + 2, none⟩ (.int .i64 (r.c + 1))) = .ok () w7 := hup0
        have b0 : _ = some (Value.int .i64 x.t) := hB5.cell' (i := 0) rfl
        have b1 : _ = some (Value.int .i64 x.s) := hB5.cell' (i := 1) rfl
        have d0 : _ = some (Value.int .i64 x.t) := hB6.cell' (i := 0) rfl
        have d1 : _ = some (Value.int .i64 x.s) := hB6.cell' (i := 1) rfl
        have hk0 : (0 : Int) ≤ k := by omega
        have hk0l : (k : Int) < out.length := by omega
        have hc1 : r.c + 1 ≤ 9223372036854775807 := by omega
        have hc2 : 0 ≤ r.c := by omega
        have RC := Lib.hid (hG.grow ho1 ho2 hg)
        have M7 := Lib.hid hM7
        have R6 := Lib.hid (hR6.keep hk7 ng2)
        have PS := Lib.hid (packStep_some hg hk)
        have gneg : g ≠ g2 := by
          obtain ⟨cs, hb, _⟩ := hR
          obtain ⟨cs2, hb2, _⟩ := hO
          exact Blk.ne_ hb2 hb (by decide)
        have gnem : g ≠ mb := by obtain ⟨cs2, hb2, _⟩ := hO; exact hM.ne_blk hb2
        have O7 := Lib.hid ((((hO.keep hk1 (fun h => h)).keep hk5 gnem).keep hk6 gneg).keep hk7 gnem)
        have K7 := Lib.hid (Kept.newer (Kept.newer (Kept.newer (hkw.alloc (.cells #[.int .i64 x.t, .int .i64 x.s] 27)) hk5 hmb) hk6 hgb2) hk7 hmb)
        clear hdel0 hup0 hM7 hR6 hB1 hB5 hB6 hM6 hM5 hk5 hk6 hk7 hG ho1 ho2 hg hR5 hR hO hown hM hM1 hk hr hrc hget hk1 hpl
        go_wp2_with fail
        go_roundw
        case rel =>
          refine ⟨_, n + 1, _, rfl, by go_num, by omega, ?_, M7.out, ?_, O7.out, K7.out⟩
          · rw [SU.out, PS.out]
            have h7 : w7.ownsRow w.heap.size 61 3 (.slice (some ⟨g2, 0, none⟩) (out.set k r.up).length rc) (out.set k r.up).length (runE.flat (out.set k r.up)) := OwnAt.owns R6.out hgb2
            rw [List.length_set] at h7 ⊢
            exact h7
          · rw [SU.out]; exact RC.out
        case measure => simp [intOf]; omega
      | none =>
        rw [hg] at hget
        have hlk : (Instr.lookup 123 (.map (some mb)) (.agg #[.int .i64 x.t, .int .i64 x.s]) true).run Try.prog (wr.alloc (.cells #[.int .i64 x.t, .int .i64 x.s] 27)) = .ok (.tuple #[.int .i64 0, .bool false]) (wr.alloc (.cells #[.int .i64 x.t, .int .i64 x.s] 27)) := run_lookupK_none_ok (K := idK) (k := x) Try.underlying123 hM1 hget (by kernel_rfl)
        obtain ⟨i0, hi, hz0, hz1, hz2⟩ := info_parts info_run
        have I := Lib.hid hi
        have Z0 := Lib.hid hz0
        have Z1 := Lib.hid hz1
        have Z2 := Lib.hid hz2
        have hone : ∀ u ∈ [Value.int .i64 x.t, .int .i64 x.s, .int .i64 1], u.oneCell' = true := by simp [Value.oneCell']
        have H1 := Lib.hid hone
        have hnw : ∀ j u, [Value.int .i64 x.t, .int .i64 x.s, .int .i64 1][j]? = some u → ((wr.alloc (.cells #[.int .i64 x.t, .int .i64 x.s] 27)).alloc (.cells #[.int .i64 x.t, .int .i64 x.s, .int .i64 1] 61)).cell? ((⟨wr.heap.size + 1, 0, none⟩ : Addr).add j) = some u := fun j u hu => by
          rw [Addr.add_lit, Nat.zero_add]
          have hb := Blk.new (wr.alloc (.cells #[.int .i64 x.t, .int .i64 x.s] 27)) 61 #[.int .i64 x.t, .int .i64 x.s, .int .i64 1]
          rw [World.size_alloc] at hb
          refine hb.cell' ?_
          rw [← Array.getElem?_toList]
          exact hu
        have NW := Lib.hid hnw
        have hol : out.length ≤ 1000000 := by omega
        have h63 : out.length + 1 ≤ maxLen := by unfold maxLen; omega
        have hby : (out.length + 1) * 24 ≤ 140737488355328 := by omega
        have hbase : w.heap.size ≤ wr.heap.size := hkw.size
        have hown2 := (hown.alloc (.cells #[.int .i64 x.t, .int .i64 x.s] 27)).alloc (.cells #[.int .i64 x.t, .int .i64 x.s, .int .i64 1] 61)
        have OW := Lib.hid hown2
        have PS : Hid (packStep out x = out ++ [⟨x, 1⟩]) := by show packStep out x = _; unfold packStep; rw [hg]
        have RC := Lib.hid (hG.new ho1 ho2 hg)
        have hM2 := hM1.keep (Kept.alloc (Kept.refl (fun _ => False) _) (.cells #[.int .i64 x.t, .int .i64 x.s, .int .i64 1] 61)) (fun h => h)
        have hB2 := hB1.alloc (.cells #[.int .i64 x.t, .int .i64 x.s, .int .i64 1] 61)
        have hO2 := (hO.keep hk1 (fun h => h)).keep (Kept.alloc (Kept.refl (fun _ => False) _) (.cells #[.int .i64 x.t, .int .i64 x.s, .int .i64 1] 61)) (fun h => h)
        have hkw2 := (hkw.alloc (.cells #[.int .i64 x.t, .int .i64 x.s] 27)).alloc (.cells #[.int .i64 x.t, .int .i64 x.s, .int .i64 1] 61)
        have ob : (Value.slice ra out.length rc).ownBlock = none ∨ ∃ g2, (Value.slice ra out.length rc).ownBlock = some g2 ∧ w.heap.size ≤ g2 ∧ ∃ cs, Blk ((wr.alloc (.cells #[.int .i64 x.t, .int .i64 x.s] 27)).alloc (.cells #[.int .i64 x.t, .int .i64 x.s, .int .i64 1] 61)) g2 61 cs := by
          rcases hown2.2 with ⟨e, _⟩ | ⟨g2, c2, cur, e, h1, h2, _⟩
          · rw [e]; exact .inl rfl
          · rw [e]; exact .inr ⟨g2, rfl, h1, cur, h2⟩
        have OBM : ∀ b, MapK idK ((wr.alloc (.cells #[.int .i64 x.t, .int .i64 x.s] 27)).alloc (.cells #[.int .i64 x.t, .int .i64 x.s, .int .i64 1] 61)) b kvs → ¬ (Value.slice ra out.length rc).ownBlock = some b := fun b hm e => by
          rcases ob with e2 | ⟨g2, e2, _, cs, hb⟩
          · rw [e2] at e; cases e
          · rw [e2] at e; cases e; exact hm.ne_blk hb rfl
        have OBB : ∀ {cs0 : Array Value} (b : Nat), Blk ((wr.alloc (.cells #[.int .i64 x.t, .int .i64 x.s] 27)).alloc (.cells #[.int .i64 x.t, .int .i64 x.s, .int .i64 1] 61)) b 27 cs0 → ¬ (Value.slice ra out.length rc).ownBlock = some b := fun b hm e => by
          rcases ob with e2 | ⟨g2, e2, _, cs, hb⟩
          · rw [e2] at e; cases e
          · rw [e2] at e; cases e; exact Blk.ne_ hm hb (by decide) rfl
        have OB := Lib.hid ob
        have M2 := Lib.hid hM2
        have B2 := Lib.hid hB2
        have O2 := Lib.hid hO2
        have K2 := Lib.hid hkw2
        clear hi hz0 hz1 hz2 hone hnw hown hown2 hG ho1 ho2 hg hM hM1 hM2 hB1 hB2 hO hO2 hkw2 ob hget hk1
        go_wp2_with (at_builtin; (refine wpList_append_own _ rfl (.tmp 42) (.tmp 45) 28 rfl w.heap.size 61 i0 (.agg #[.int .i64 0, .int .i64 0, .int .i64 0]) 3 24 Try.underlying28 I.out Z0.out Z1.out Z2.out rfl (by decide) _ _ _ rfl OW.out ⟨wr.heap.size + 1, 0, none⟩ 1 1 [.int .i64 x.t, .int .i64 x.s, .int .i64 1] rfl rfl NW.out H1.out h63 hby (by simp; omega) ?_); (intro v' w5 hown5 hgrow0 _); have hgrow : World.grownBy _ w5 (Value.slice ra out.length rc).ownBlock := hgrow0; clear hgrow0; have hM5 := M2.out.keep (Kept.grown (Kept.refl (fun b => (Value.slice ra out.length rc).ownBlock = some b) _) hgrow (fun k e _ => e)) (OBM mb M2.out); obtain ⟨w7, hup0, hM7, hk7⟩ := run_updateK (P := Try.prog) (k := (⟨x.t + 1, x.s⟩ : ID)) Try.underlying123 hM5 (.int .i64 (out.length : Int)); have hup : (Instr.mapUpdate 123 (.map (some mb)) (.agg #[.int .i64 (x.t + 1), .int .i64 x.s]) (.int .i64 out.length)).run Try.prog w5 = .ok () w7 := hup0; have hB5 := B2.out.grown hgrow (OBB wr.heap.size B2.out); have b0 : _ = some (Value.int .i64 x.t) := hB5.cell' (i := 0) rfl; have b1 : _ = some (Value.int .i64 x.s) := hB5.cell' (i := 1) rfl; clear hup0)
        go_roundw
        case rel =>
          have hgb2 : ∀ b, (Value.slice ra out.length rc).ownBlock = some b → w.heap.size ≤ b := fun b e => by
            rcases OB.out with e2 | ⟨g2, e2, h2, _⟩
            · rw [e2] at e; cases e
            · rw [e2] at e; cases e; exact h2
          have hkg : Kept (fun b => (Value.slice ra out.length rc).ownBlock = some b) _ w5 := Kept.grown (Kept.refl _ _) hgrow (fun k e _ => e)
          have hO5 := O2.out.keep hkg (fun e => by obtain ⟨cs, hb, _⟩ := O2.out; exact OBB g hb e)
          have gnem : g ≠ mb := by obtain ⟨cs2, hb2, _⟩ := O2.out; exact M2.out.ne_blk hb2
          have hvm : ∀ b, v'.ownBlock = some b → b ≠ mb := fun b e => by
            rcases hown5.2 with ⟨e2, _⟩ | ⟨g2, c2, cur, e2, h1, h2, _⟩
            · rw [e2] at e; cases e
            · rw [e2] at e; cases e; exact hM5.ne_blk h2
          refine ⟨_, n + 1, _, rfl, by go_num, by omega, ?_, hM7, ?_, hO5.keep hk7 gnem, Kept.newer ((K2.out).trans hkg (fun i hi e => by have := hgb2 i e; omega)) hk7 hmb⟩
          · rw [SU.out, PS.out, runE.flat_append, runE.flat_one, List.length_append]
            have h7 := owns_keep hown5 hk7 (fun b e => hvm b e)
            exact h7
          · rw [SU.out]; exact RC.out
        case measure => simp [intOf]; omega
end Go.Proofs.Ytlafodnaifghcaa.St
