/- The iterator called with a function that owns memory of its own, which grows: a footprint. -/
import Derived.Test.YtdbnohlignpeaaaStForm1
import Derived.Test.YtdbnohlignpeaaaStForm0
namespace Go.Proofs.Ytdbnohlignpeaaa.St
open Go.RowKit
set_option maxRecDepth 100000 in
set_option maxHeartbeats 4000000 in
theorem each1F_any {w : World} {S : Nat → Prop} {L : List Run} {pl : Nat} {v : Value} (hL : ∀ r ∈ L, r.Ok) (hb : L.length ≤ 1000000) (k : FuncId) (caps : Array Value) (I : Nat → (Nat → Prop) → World → Prop) (Z : World → Prop)
    (hrd : ∀ i F w, I i F w → w.cell? ⟨pl, 0, none⟩ = some v ∧ SlAt runE w v L) (hlt : ∀ i F w, I i F w → ∀ b, F b → b < w.heap.size) (hgr : ∀ i F w w', I i F w → Kept (fun _ => False) w w' → I i F w')
    (hy : ∀ i F x w, (idsOf L)[i]? = some x → I i F w → Calls Try.prog k (#[idV x] ++ caps) w fun e w' => ∃ (b : Bool) (F' : Nat → Prop), e = .returned (.bool b) ∧ Kept F w w' ∧ (∀ b, F' b → F b ∨ w.heap.size ≤ b) ∧ (b = true → I (i + 1) F' w') ∧ (b = false → Z w'))
    (hen : ∀ args w, Sem.run Try.prog (callFunc k args) w = .ok (.enter k args) w) (h : I 0 S w) :
    Calls Try.prog 73 #[.func (.func k) #[] caps, .pointer (some ⟨pl, 0, none⟩)] w fun e w' => e = .returned (.tuple #[]) ∧ Kept S w w' ∧ ((∃ F, I (idsOf L).length F w') ∨ Z w') := by
  obtain ⟨x0, hs0⟩ := hrd 0 S w h
  obtain ⟨a, c, rfl, _, _⟩ := hs0.sl
  have HL := Lib.hid hL
  have RD := Lib.hid hrd
  have GR := Lib.hid hgr
  have HY := Lib.hid hy
  have LT := Lib.hid hlt
  have H0 := Lib.hid h
  clear hL hrd hgr hy hlt hs0 h
  go_enter Try.func73, Try.ntmps73
  go_wp2_with fail
  go_loopw [8] (fun iv wr => ∃ j : Nat, iv = .int .i64 j ∧ j ≤ L.length ∧ ∃ F, I (idsOf (L.take j)).length F wr ∧ (∀ b, F b → b < w.heap.size → S b) ∧ Kept S w wr) (fun iv _ => L.length - (intOf iv).toNat)
  case atStart => exact ⟨0, rfl, Nat.zero_le _, S, H0.out, fun b hb _ => hb, Kept.refl _ _⟩
  case round =>
    obtain ⟨j, rfl, hj, F0, hI, hF0, hkw⟩ := hrel
    obtain ⟨wo, rfl⟩ : ∃ wo : World, wo = wr := ⟨_, rfl⟩
    have hj0 : (0 : Int) ≤ j := by omega
    by_cases hlt : j < L.length
    case neg =>
      have hnl : ¬ (j : Int) < L.length := by omega
      go_wp2_with fail
      go_end0
      exact ⟨rfl, hkw, .inl ⟨F0, by rw [List.take_of_length_le (by omega)] at hI; exact hI⟩⟩
    case pos =>
      have hltI : (j : Int) < L.length := by omega
      obtain ⟨r, hr⟩ := get_of_lt hlt
      obtain ⟨_, hs1⟩ := RD.out _ _ _ hI
      obtain ⟨g, o, c', hv, hglt, hc⟩ := SlAt.run hs1 (by omega)
      cases hv
      obtain ⟨c0, c1, c2⟩ := hc j r hr
      have HR := Lib.hid hr
      have hok := HL.out r (List.mem_of_getElem? hr)
      have HOK := Lib.hid hok
      unfold Run.Ok ID.Is at hok
      obtain ⟨o1, ⟨o2, o3, o4, o5⟩, o6⟩ := hok
      have hI1 := GR.out _ _ _ _ hI ((Kept.refl (fun _ => False) wo).alloc (.cells #[.int .i64 r.id.t, .int .i64 r.id.s, .int .i64 r.c] 35))
      have I1 := Lib.hid hI1
      have nF : ¬ F0 wo.heap.size := fun h => by have := LT.out _ _ _ hI _ h; omega
      have B1 := Lib.hid (Blk.new wo 35 #[.int .i64 r.id.t, .int .i64 r.id.s, .int .i64 r.c])
      have KW := Lib.hid hkw
      have hsz := hkw.size
      clear hr hs1 hc hI1 hkw hI
      go_wp2_with fail
      clear c0 c1 c2
      go_loopw [14] (fun iv wr => ∃ n : Nat, iv = .int .i64 n ∧ n ≤ r.c.toNat ∧ ∃ F, I ((idsOf (L.take j)).length + n) F wr ∧ (∀ b, F b → b < w.heap.size → S b) ∧ ¬ F wo.heap.size ∧ Kept S w wr ∧ Blk wr wo.heap.size 35 #[.int .i64 r.id.t, .int .i64 r.id.s, .int .i64 r.c]) (fun iv _ => r.c.toNat - (intOf iv).toNat)
      case atStart => exact ⟨0, rfl, Nat.zero_le _, F0, I1.out, hF0, nF, KW.out.alloc _, B1.out⟩
      case round =>
        clear I1 B1
        obtain ⟨n, rfl, hn, F, hI, hF, hnF, hkw, hB⟩ := hrel
        have hn0 : (0 : Int) ≤ n := by omega
        by_cases hlt2 : n < r.c.toNat
        case neg =>
          have hnl : ¬ (n : Int) < r.c := by omega
          go_wp2_with fail
          go_roundw
          case rel =>
            refine ⟨j + 1, by go_num, by omega, F, ?_, hF, hkw⟩
            rw [idsOf_succ HR.out, List.length_append, idsR_len]
            obtain rfl : n = r.c.toNat := by omega
            exact hI
          case measure => simp [intOf] <;> omega
        case pos =>
          have hnl : (n : Int) < r.c := by omega
          have b0 : wr.cell? ⟨wo.heap.size, 0, none⟩ = some (.int .i64 r.id.t) := hB.cell' rfl
          have b1 : wr.cell? ⟨wo.heap.size, 1, none⟩ = some (.int .i64 r.id.s) := hB.cell' rfl
          have haf := after_any r.id n (by omega) (by omega) wr
          rw [after_ok HOK.out hlt2] at haf
          unfold idV at haf
          have HI1 := Lib.hid hI
          have HB := Lib.hid hB
          have HK := Lib.hid hkw
          clear hI hB hkw
          go_wp2_with fail
          refine haf.mono ?_
          rintro e w1 ⟨rfl, hg⟩
          have hI1 := GR.out _ _ _ _ HI1.out hg.kept
          have hy1 := HY.out _ _ _ w1 (idsOf_at HR.out hlt2) hI1
          go_wp2_with fail
          refine hy1.mono ?_
          rintro e w2 ⟨b, F2, rfl, hk2, hF2, ht, hf⟩
          have K2 := Lib.hid ((HK.out.trans hg.kept (fun _ _ h => h.elim)).trans hk2 (fun b hb h => hF b h hb))
          have szw := (HK.out.trans hg.kept (fun _ _ h => h.elim)).size
          have szo := hg.size
          have hbl := HB.out.lt
          have hF3 : ∀ b, F2 b → b < w.heap.size → S b := fun b hb hl => by
            rcases hF2 b hb with h | h
            · exact hF b h hl
            · omega
          have nF3 : ¬ F2 wo.heap.size := fun h => by
            rcases hF2 _ h with h | h
            · exact hnF h
            · omega
          have hB2 := hk2.blk hnF (hg.kept.blk (fun h => h) HB.out)
          have B2 := Lib.hid hB2
          clear hg hI1 hy1 hk2 hB2 b0 b1 hF2
          cases b with
          | true =>
            have I2 := Lib.hid (ht rfl)
            clear ht hf
            go_wp2_with fail
            go_roundw
            case rel => exact ⟨n + 1, by go_num, by omega, F2, I2.out, hF3, nF3, K2.out, B2.out⟩
            case measure => simp [intOf] <;> omega
          | false =>
            have Z2 := Lib.hid (hf rfl)
            clear ht hf
            go_wp2_with fail
            refine bodyPost_ret (results_none rfl _ _ _) rfl ?_
            exact ⟨rfl, K2.out, .inr Z2.out⟩
end Go.Proofs.Ytdbnohlignpeaaa.St
