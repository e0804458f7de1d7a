/- hearsayref6.Each. -/
import Derived.Test.YtdbnohlignpeaaaStEach2
import Derived.Test.YtdbnohlignpeaaaStRefCheck
import Derived.Test.YtdbnohlignpeaaaStKeep
import Derived.Deep.RegionLaw
namespace Go.Proofs.Ytdbnohlignpeaaa.St
open Go.RowKit
/-- append of one element, as a step of a drawn region -/
theorem step_append_keeps {P : Program} {α : Type} (E : Enc α) {ops : Array Oper} {o : Oper} {a : Act} {w : World} {K : Act → World → Prop} {Q : Exit → Act → World → Prop} {G : Prop} (hgd : o.guard = none) (s y : Operand) (t : TypeId)
    (hop : o.op = Op.call { callee := Callee.builtin Builtin.append, args := #[s, y], argTypes := #[t, t] }) (base : Nat) (e : TypeId) (z : Value) (bytes : Nat) (ht : P.underlying t = some (.slice e))
    (hinfo : (P.info? e).map (fun i => (i.zero, i.size, i.bytes)) = some (some z, E.k, bytes)) (hzs : z.cells.size = E.k) (hb4 : bytes ≤ 4096) {v : Value} {D : List α} {x : α} {ad : Addr} {c : Nat} (hs : a.eval s = v) (hx : a.eval y = .slice (some ad) 1 c)
    (hown : w.ownsRow base e E.k v D.length (E.flat D)) (hL : SlAt E w (.slice (some ad) 1 c) [x]) (h63 : D.length ≤ 1000000) (hbase : base ≤ w.heap.size)
    (hK : ∀ v' w', w'.ownsRow base e E.k v' (D.length + 1) (E.flat (D ++ [x])) → Grow1 w w' v v' → K (a.put o.dst v') w') : if Region.wanted o (yielded ops a.tmps) = true then Oper.wp P o a w K Q else G := by
  have hw : Region.wanted o (yielded ops a.tmps) = true := by simp [Region.wanted, hgd]
  rw [if_pos hw]
  obtain ⟨v', w', hr, h2, h3⟩ := run_append_keeps (P := P) E t o.type e base z bytes ht hinfo hzs hb4 hown hL h63 hbase
  unfold Oper.wp
  simp [execOp, hop, resolve, invoke, builtin, hs, hx, hr, Result.andThen]
  exact hK v' w' h2 h3
theorem grow_kept {w w' : World} {v v' : Value} (h : Grow1 w w' v v') : Kept (fun b => v.ownBlock = some b) w w' := by
  rcases h with ⟨_, h⟩ | ⟨_, h⟩
  · exact h
  · exact h.mono (fun _ _ h => h.elim)
theorem idsR_snoc {r : Run} {n : Nat} (h : n < r.c.toNat) : (idsR r).take (n + 1) = (idsR r).take n ++ [⟨r.id.t + n, r.id.s⟩] := by
  rw [List.take_add_one, idsR_at h]
  rfl
theorem idsOf_full {L : List Run} {j n : Nat} {r : Run} (h : L[j]? = some r) (hn : n ≤ r.c.toNat) : (idsOf L).take (idsOf (L.take j) ++ (idsR r).take n).length = idsOf (L.take j) ++ (idsR r).take n := by
  obtain ⟨R, e⟩ := idsOf_split h
  rw [e, List.append_assoc, List.length_append, List.take_append, List.take_of_length_le (by omega), Nat.add_sub_cancel_left, List.take_append_of_le_length (by rw [List.length_take]; exact Nat.min_le_right _ _)]
  congr 1
  rw [List.length_take, idsR_len, Nat.min_eq_left hn]
theorem lit_id (w : World) (t s : Int) : SlAt idE (w.alloc (.cells #[.int .i64 t, .int .i64 s] 23)) (.slice (some ⟨w.heap.size, 0, none⟩) 1 1) [(⟨t, s⟩ : ID)] := SlAt.lit (E := idE) [(⟨t, s⟩ : ID)] _ rfl (by show 1 ≤ maxLen; decide)
set_option maxRecDepth 100000 in
set_option maxHeartbeats 4000000 in
theorem reach_any {w : World} {v : Value} {L : List Run} (h : SlAt runE w v L) (hin : ∀ r ∈ L, r.In) (hb : L.length ≤ 1000000) (most : Nat) (hm : most ≤ 100000) :
    Calls Try.prog 41 #[v, .int .i64 most] w fun e w' => ∃ v', e = .returned v' ∧ w'.ownsRow w.heap.size 23 2 v' ((idsOf (goodL L)).take most).length (idE.flat ((idsOf (goodL L)).take most)) ∧ Kept (fun _ => False) w w' := by
  have hch := rcheck_any h hin (by omega)
  obtain ⟨a, c, rfl, _, _⟩ := h.sl
  have HS := Lib.hid h
  clear h hin
  go_enter Try.func41, Try.ntmps41
  go_wp2_with fail
  refine hch.mono ?_
  rintro e w2 ⟨r, rfl, hci, hk2⟩
  by_cases hg : Good L
  case neg =>
    have hr : r ≠ 0 := fun e => hg (hci.good.2 e)
    have HG := Lib.hid hg
    clear hg hci hch
    go_wp2_with fail
    go_ret
    refine ⟨_, rfl, ?_, hk2⟩
    rw [goodL_neg HG.out, show idsOf [] = [] from rfl, List.take_nil]
    exact World.ownsRow_nil _ _ _ _
  case pos =>
    obtain rfl : r = 0 := hci.good.1 hg
    have hok := good_ok hg
    have GL := Lib.hid (goodL_pos hg)
    have HOK := Lib.hid hok
    have HK2 := Lib.hid hk2
    clear hg hci hch hok hk2
    go_wp2_with fail
    go_loopw [5, 6] (fun ov iv wr => ∃ j : Nat, iv = .int .i64 j ∧ j ≤ L.length ∧ (idsOf (L.take j)).length ≤ most ∧ wr.ownsRow w.heap.size 23 2 ov (idsOf (L.take j)).length (idE.flat (idsOf (L.take j))) ∧ Kept (fun _ => False) w wr) (fun _ iv _ => L.length - (intOf iv).toNat)
    case atStart => exact ⟨0, rfl, Nat.zero_le _, by simp [idsOf], World.ownsRow_nil _ _ _ _, HK2.out⟩
    case round =>
      obtain ⟨j, rfl, hj, hl, ho, hkw⟩ := hrel
      have hj0 : (0 : Int) ≤ j := by omega
      obtain ⟨pl, hP⟩ : ∃ m, (idsOf (L.take j)).length = m := ⟨_, rfl⟩
      rw [hP] at ho hl
      obtain ⟨oa, oc, rfl⟩ := owns_sl ho
      by_cases hlt : j < L.length
      case neg =>
        have hnl : ¬ (j : Int) < L.length := by omega
        have eL : L.take j = L := List.take_of_length_le (by omega)
        rw [eL] at hP ho
        have HO := Lib.hid ho
        clear ho
        go_wp2_with fail
        go_ret
        refine ⟨.slice oa pl oc, rfl, ?_, hkw⟩
        rw [GL.out, List.take_of_length_le (by omega), hP]
        try rw [show min most pl = pl by omega]
        exact HO.out
      case pos =>
        have hltI : (j : Int) < L.length := by omega
        obtain ⟨r, hr⟩ := get_of_lt hlt
        have HR := Lib.hid hr
        have hok := HOK.out r (List.mem_of_getElem? hr)
        unfold Run.Ok ID.Is at hok
        obtain ⟨o1, ⟨o2, o3, o4, o5⟩, o6⟩ := hok
        have HO := Lib.hid ho
        have HK := Lib.hid hkw
        clear hr ho hkw
        go_wp2_with fail
        go_loopw [5, 7] (fun ov iv wr => ∃ n : Nat, iv = .int .i64 n ∧ n ≤ r.c.toNat ∧ pl + n ≤ most ∧ wr.ownsRow w.heap.size 23 2 ov (pl + n) (idE.flat (idsOf (L.take j) ++ (idsR r).take n)) ∧ Kept (fun _ => False) w wr) (fun _ iv _ => r.c.toNat - (intOf iv).toNat)
        case atStart => exact ⟨0, rfl, Nat.zero_le _, hl, by simpa using HO.out, HK.out⟩
        case round =>
          obtain ⟨n, rfl, hn, hl2, ho, hkw⟩ := hrel
          have hn0 : (0 : Int) ≤ n := by omega
          obtain ⟨oa, oc, rfl⟩ := owns_sl ho
          obtain ⟨g, o, c', hv, hglt, hc⟩ := SlAt.run (HS.out.kept hkw) (by omega)
          cases hv
          obtain ⟨c0, c1, c2⟩ := hc j r HR.out
          by_cases hlt2 : n < r.c.toNat
          case neg =>
            have hnl : ¬ (n : Int) < r.c := by omega
            obtain rfl : n = r.c.toNat := by omega
            have HO2 := Lib.hid ho
            have HK3 := Lib.hid hkw
            clear ho hkw hc
            go_wp2_with fail
            go_roundw
            case rel =>
              have hl3 : (idsOf (L.take (j + 1))).length = pl + r.c.toNat := by rw [idsOf_succ HR.out, List.length_append, idsR_len, hP]
              refine ⟨j + 1, by go_num, by omega, by omega, ?_, HK3.out⟩
              have := HO2.out
              have e3 : (idsR r).take r.c.toNat = idsR r := List.take_of_length_le (by rw [idsR_len]; exact Nat.le_refl _)
              rw [e3, ← idsOf_succ HR.out] at this
              rw [hl3]
              exact this
            case measure => simp [intOf] <;> omega
          case pos =>
            have hnl : (n : Int) < r.c := by omega
            have HO2 := Lib.hid ho
            have HK3 := Lib.hid hkw
            by_cases hmost : most ≤ pl + n
            · have hmI : (most : Int) ≤ ((pl + n : Nat) : Int) := by omega
              clear ho hkw hc
              go_wp2_with fail
              go_ret
              refine ⟨.slice oa (pl + n) oc, rfl, ?_, HK3.out⟩
              have e1 : (idsOf (L.take j) ++ (idsR r).take n).length = most := by
                rw [List.length_append, List.length_take, idsR_len, hP]; omega
              have e2 := idsOf_full HR.out hn
              rw [e1] at e2
              rw [GL.out, e2, e1, show most = pl + n by omega]
              exact HO2.out
            · have hmI : ¬ (most : Int) ≤ ((pl + n : Nat) : Int) := by omega
              have hDl : (idsOf (L.take j) ++ (idsR r).take n).length = pl + n := by
                rw [List.length_append, List.length_take, idsR_len, hP]; omega
              have hsz := hkw.size
              clear ho hkw hc
              go_wp2_with fail
              have hwr : IntKind.i64.wrap (r.id.t + (n : Int)) = r.id.t + n := IntWalk.i64_in _ (by omega)
              have hlit : SlAt idE (wr.alloc (.cells #[.int .i64 (IntKind.i64.wrap (r.id.t + (n : Int))), .int .i64 r.id.s] 23)).drew (.slice (some ⟨wr.heap.size, 0, none⟩) 1 1) [(⟨r.id.t + n, r.id.s⟩ : ID)] := by
                rw [hwr]
                exact (lit_id wr (r.id.t + n) r.id.s).kept ((Kept.refl (fun _ => False) _).drew)
              have hka : Kept (fun _ => False) wr (wr.alloc (.cells #[.int .i64 (IntKind.i64.wrap (r.id.t + (n : Int))), .int .i64 r.id.s] 23)).drew := ((Kept.refl (fun _ => False) wr).alloc _).drew
              have hown := owns_keep HO2.out hka (fun _ _ h => h)
              have HKA := Lib.hid hka
              clear hwr hka
              have LIT := Lib.hid hlit
              have OWN := Lib.hid hown
              have HDL := Lib.hid hDl
              clear hlit hown hDl
              go_region_law (refine step_append_keeps idE rfl (.tmp 32) (.tmp 48) 28 rfl w.heap.size 23 (.agg #[.int .i64 0, .int .i64 0]) 16 Try.underlying28 info_id rfl (by decide) (v := .slice oa (pl + n) oc) (D := idsOf (L.take j) ++ (idsR r).take n) (x := ⟨r.id.t + n, r.id.s⟩) rfl rfl (by rw [HDL.out]; exact OWN.out) LIT.out (by rw [HDL.out]; omega) (by simp; omega) ?_; intro v2 w2 ho2 hg2; rw [HDL.out] at ho2; (obtain ⟨oa2, oc2, rfl⟩ := owns_sl ho2))
              all_goals
                have K5 := Lib.hid (HK3.out.trans HKA.out (fun _ _ h => h))
                have K6 := Lib.hid (K5.out.over (grow_kept hg2) (fun b hb => (OWN.out.lt b hb).1))
                have O6 := Lib.hid ho2
                clear hg2 ho2
                go_wp2_with fail
                go_roundw
              case rel => exact ⟨n + 1, by go_num, by omega, by omega, by rw [idsR_snoc hlt2, ← List.append_assoc]; exact O6.out, K6.out⟩
              case measure => simp [intOf] <;> omega
              case rel => exact ⟨n + 1, by go_num, by omega, by omega, by rw [idsR_snoc hlt2, ← List.append_assoc]; exact O6.out, K6.out⟩
              case measure => simp [intOf] <;> omega
end Go.Proofs.Ytdbnohlignpeaaa.St
