/- stamp.Each's iterator, for any function that is handed to it. -/
import Derived.Test.YtdbnohlignpeaaaStCheck
import Derived.Test.YtdbnohlignpeaaaStRowApp
namespace Go.Proofs.Ytdbnohlignpeaaa.St
open Go.RowKit
def idsR (r : Run) : List ID := (List.range r.c.toNat).map fun n : Nat => (⟨r.id.t + (n : Int), r.id.s⟩ : ID)
/-- the identifiers of these runs, in order -/
def idsOf (L : List Run) : List ID := L.flatMap idsR
theorem idsR_len (r : Run) : (idsR r).length = r.c.toNat := by simp [idsR]
theorem idsR_at {r : Run} {n : Nat} (h : n < r.c.toNat) : (idsR r)[n]? = some ⟨r.id.t + n, r.id.s⟩ := by
  unfold idsR
  rw [List.getElem?_map, List.getElem?_range h]
  rfl
theorem idsOf_succ {L : List Run} {j : Nat} {r : Run} (h : L[j]? = some r) : idsOf (L.take (j + 1)) = idsOf (L.take j) ++ idsR r := by
  rw [List.take_add_one, h]
  simp [idsOf]
theorem idsOf_split {L : List Run} {j : Nat} {r : Run} (h : L[j]? = some r) : ∃ R, idsOf L = idsOf (L.take j) ++ idsR r ++ R := by
  refine ⟨idsOf (L.drop (j + 1)), ?_⟩
  rw [← idsOf_succ h]
  unfold idsOf
  rw [← List.flatMap_append, List.take_append_drop]
theorem idsOf_at {L : List Run} {j n : Nat} {r : Run} (h : L[j]? = some r) (hn : n < r.c.toNat) : (idsOf L)[(idsOf (L.take j)).length + n]? = some ⟨r.id.t + n, r.id.s⟩ := by
  obtain ⟨R, e⟩ := idsOf_split h
  rw [e, List.append_assoc, List.getElem?_append_right (by omega), show (idsOf (L.take j)).length + n - (idsOf (L.take j)).length = n by omega, List.getElem?_append_left (by rw [idsR_len]; exact hn)]
  exact idsR_at hn
theorem good_ok {L : List Run} (h : Good L) : ∀ r ∈ L, r.Ok := by
  intro r hr
  obtain ⟨n, hn⟩ := List.mem_iff_getElem?.1 hr
  have := h n r hn
  unfold why at this
  by_cases hok : r.Ok
  · exact hok
  · rw [if_pos hok] at this
    omega
theorem after_ok {r : Run} (h : r.Ok) {n : Nat} (hn : n < r.c.toNat) : r.id.after n = ⟨r.id.t + n, r.id.s⟩ := by
  unfold Run.Ok at h
  unfold ID.after
  rw [if_pos ⟨h.2.1, by omega, by omega⟩]
set_option maxRecDepth 100000 in
set_option maxHeartbeats 4000000 in
theorem each1_any {w : World} {S : Nat → Prop} {L : List Run} {pl : Nat} {v : Value} (hL : ∀ r ∈ L, r.Ok) (hb : L.length ≤ 1000000) (k : FuncId) (caps : Array Value) (I : Nat → World → Prop) (Z : World → Prop)
    (hrd : ∀ i w, I i w → w.cell? ⟨pl, 0, none⟩ = some v ∧ SlAt runE w v L) (hgr : ∀ i w w', I i w → Kept (fun _ => False) w w' → I i w')
    (hy : ∀ i x w, (idsOf L)[i]? = some x → I i w → Calls Try.prog k (#[idV x] ++ caps) w fun e w' => ∃ b, e = .returned (.bool b) ∧ Kept S w w' ∧ (b = true → I (i + 1) w') ∧ (b = false → Z w'))
    (hS : ∀ b, S b → b < w.heap.size) (hen : ∀ args w, Sem.run Try.prog (callFunc k args) w = .ok (.enter k args) w) (h : I 0 w) :
    Calls Try.prog 73 #[.func (.func k) #[] caps, .pointer (some ⟨pl, 0, none⟩)] w fun e w' => e = .returned (.tuple #[]) ∧ Kept S w w' ∧ (I (idsOf L).length w' ∨ Z w') := by
  obtain ⟨x0, hs0⟩ := hrd 0 w h
  obtain ⟨a, c, rfl, _, _⟩ := hs0.sl
  have HL := Lib.hid hL
  have RD := Lib.hid hrd
  have GR := Lib.hid hgr
  have HY := Lib.hid hy
  have HS := Lib.hid hS
  have H0 := Lib.hid h
  clear hL hrd hgr hy hS hs0 h
  go_enter Try.func73, Try.ntmps73
  go_wp2_with fail
  go_loopw [8] (fun iv wr => ∃ j : Nat, iv = .int .i64 j ∧ j ≤ L.length ∧ I (idsOf (L.take j)).length wr ∧ Kept S w wr) (fun iv _ => L.length - (intOf iv).toNat)
  case atStart => exact ⟨0, rfl, Nat.zero_le _, H0.out, Kept.refl _ _⟩
  case round =>
    obtain ⟨j, rfl, hj, hI, hkw⟩ := hrel
    obtain ⟨wo, rfl⟩ : ∃ wo : World, wo = wr := ⟨_, rfl⟩
    have hj0 : (0 : Int) ≤ j := by omega
    by_cases hlt : j < L.length
    case neg =>
      have hnl : ¬ (j : Int) < L.length := by omega
      go_wp2_with fail
      go_end0
      exact ⟨rfl, hkw, .inl (by rw [List.take_of_length_le (by omega)] at hI; exact hI)⟩
    case pos =>
      have hltI : (j : Int) < L.length := by omega
      obtain ⟨r, hr⟩ := get_of_lt hlt
      obtain ⟨_, hs1⟩ := RD.out _ _ hI
      obtain ⟨g, o, c', hv, hglt, hc⟩ := SlAt.run hs1 (by omega)
      cases hv
      obtain ⟨c0, c1, c2⟩ := hc j r hr
      have HR := Lib.hid hr
      have hok := HL.out r (List.mem_of_getElem? hr)
      have HOK := Lib.hid hok
      unfold Run.Ok ID.Is at hok
      obtain ⟨o1, ⟨o2, o3, o4, o5⟩, o6⟩ := hok
      have hI1 := GR.out _ _ _ hI ((Kept.refl (fun _ => False) wo).alloc (.cells #[.int .i64 r.id.t, .int .i64 r.id.s, .int .i64 r.c] 35))
      have I1 := Lib.hid hI1
      have B1 := Lib.hid (Blk.new wo 35 #[.int .i64 r.id.t, .int .i64 r.id.s, .int .i64 r.c])
      have KW := Lib.hid hkw
      have hsz := hkw.size
      clear hr hs1 hc hI1 hkw hI
      go_wp2_with fail
      clear c0 c1 c2
      go_loopw [14] (fun iv wr => ∃ n : Nat, iv = .int .i64 n ∧ n ≤ r.c.toNat ∧ I ((idsOf (L.take j)).length + n) wr ∧ Kept S w wr ∧ Blk wr wo.heap.size 35 #[.int .i64 r.id.t, .int .i64 r.id.s, .int .i64 r.c]) (fun iv _ => r.c.toNat - (intOf iv).toNat)
      case atStart => exact ⟨0, rfl, Nat.zero_le _, I1.out, KW.out.alloc _, B1.out⟩
      case round =>
        clear I1 B1
        obtain ⟨n, rfl, hn, hI, hkw, hB⟩ := hrel
        have hn0 : (0 : Int) ≤ n := by omega
        by_cases hlt2 : n < r.c.toNat
        case neg =>
          have hnl : ¬ (n : Int) < r.c := by omega
          go_wp2_with fail
          go_roundw
          case rel =>
            refine ⟨j + 1, by go_num, by omega, ?_, hkw⟩
            rw [idsOf_succ HR.out, List.length_append, idsR_len]
            obtain rfl : n = r.c.toNat := by omega
            exact hI
          case measure => simp [intOf] <;> omega
        case pos =>
          have hnl : (n : Int) < r.c := by omega
          have b0 : wr.cell? ⟨wo.heap.size, 0, none⟩ = some (.int .i64 r.id.t) := hB.cell' rfl
          have b1 : wr.cell? ⟨wo.heap.size, 1, none⟩ = some (.int .i64 r.id.s) := hB.cell' rfl
          have haf := after_any r.id n (by omega) (by omega) wr
          rw [after_ok HOK.out hlt2] at haf
          unfold idV at haf
          have HI1 := Lib.hid hI
          have HB := Lib.hid hB
          have HK := Lib.hid hkw
          clear hI hB hkw
          go_wp2_with fail
          refine haf.mono ?_
          rintro e w1 ⟨rfl, hg⟩
          have hI1 := GR.out _ _ _ HI1.out hg.kept
          have hy1 := HY.out _ _ w1 (idsOf_at HR.out hlt2) hI1
          go_wp2_with fail
          refine hy1.mono ?_
          rintro e w2 ⟨b, rfl, hk2, ht, hf⟩
          have K2 := Lib.hid ((HK.out.trans hg.kept (fun _ _ h => h.elim)).trans hk2 (fun _ _ h => h))
          have hB2 := hk2.blk (fun h => by have := HS.out _ h; have := hsz; omega) (hg.kept.blk (fun h => h) HB.out)
          have B2 := Lib.hid hB2
          clear hg hI1 hy1 hk2 hB2 b0 b1
          cases b with
          | true =>
            have I2 := Lib.hid (ht rfl)
            clear ht hf
            go_wp2_with fail
            go_roundw
            case rel => exact ⟨n + 1, by go_num, by omega, I2.out, K2.out, B2.out⟩
            case measure => simp [intOf] <;> omega
          | false =>
            have Z2 := Lib.hid (hf rfl)
            clear ht hf
            go_wp2_with fail
            refine bodyPost_ret (results_none rfl _ _ _) rfl ?_
            exact ⟨rfl, K2.out, .inr Z2.out⟩
end Go.Proofs.Ytdbnohlignpeaaa.St
