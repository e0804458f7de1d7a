/- (*causal.Queue).Waits. -/
import Derived.Test.YtaaeomapbigfgaaQuState
import Derived.Test.YtaaeomapbigfgaaVeSort
namespace Go.Proofs.Ytaaeomapbigfgaa
open Go.RowKit Go.Proofs.Ytaaeomapbigfgaa.St
open Go.Sort (grow)
theorem owns_len {w : World} {base n m size : Nat} {e : TypeId} {v : Value} {xs : List Value} (h : w.ownsRow base e size v n xs) (hn : n = m) : w.ownsRow base e size v m xs := hn ▸ h
def dotsOf (W : List Ent) : List Dot := W.map (·.v.dot)
theorem sort_dnil (w : World) : Calls Try.prog 35 #[.slice none 0 0, .func (.func 36) #[] #[]] w fun e w' => e = .returned (.tuple #[]) ∧ w = w' :=
  (AnyF.slices_SortFunc_none sortDot none 0 _ w).mono fun _ _ ⟨h1, h2⟩ => ⟨h1, h2.symm⟩
theorem waits_sort {w : World} {v : Value} {D : List Dot} {n base : Nat} (h : w.ownsRow base 27 dotE.k v n (dotE.flat D)) (hb : n ≤ 1000000) (_hbase : base ≤ w.heap.size) :
    Calls Try.prog 35 #[v, .func (.func 36) #[] #[]] w fun e w' => e = .returned (.tuple #[]) ∧ ∃ D', D'.Perm D ∧ DSorted D' ∧ w'.ownsRow base 27 dotE.k v n (dotE.flat D') ∧ Kept (fun b => base ≤ b) w w' := by
  obtain ⟨rfl, ⟨rfl, rfl⟩ | ⟨g, cap, rfl, hg, hO⟩⟩ := own_of (E := dotE) h
  · refine (sort_dnil w).mono ?_
    rintro r w' ⟨rfl, rfl⟩
    exact ⟨rfl, [], List.Perm.refl _, List.Pairwise.nil, World.ownsRow_nil _ _ _ _, Kept.refl _ _⟩
  · refine (sort_dot hO (by omega)).mono ?_
    rintro r w' ⟨rfl, D', hp, hs, hO', hk⟩
    refine ⟨rfl, D', hp, hs, ?_, hk.mono (fun b _ e => by rw [e]; exact hg)⟩
    rw [← hp.length_eq]
    exact hO'.owns hg
set_option maxRecDepth 100000 in
set_option maxHeartbeats 4000000 in
theorem waits_any {w : World} {g : Nat} {h0 vv wv ov : Value} {W : List Ent} (hq : Blk w g 67 #[h0, vv, wv, ov]) (hW : w.ownsRow 0 34 11 wv W.length (entE.flat W)) (hl : W.length ≤ 1000000) :
    Calls Try.prog 12 #[.pointer (some ⟨g, 0, none⟩)] w fun r w' => ∃ v' L, r = .returned v' ∧ L.Perm (dotsOf W) ∧ DSorted L ∧ w'.ownsRow w.heap.size 27 2 v' L.length (dotE.flat L) ∧ Kept (fun _ => False) w w' := by
  have HW := Lib.hid hW
  obtain ⟨wa, wc, rfl⟩ := owns_sl hW
  have q2 : w.cell? ⟨g, 2, none⟩ = some (.slice wa W.length wc) := hq.cell' (i := 2) rfl
  clear hq hW
  go_enter Try.func12, Try.ntmps12
  go_wp2_with fail
  clear q2
  go_loopw [13, 3, 5] (fun iv lv ov wr => ∃ n : Nat, iv = .int .i64 n ∧ n ≤ W.length ∧ wr.ownsRow w.heap.size 27 dotE.k lv n (dotE.flat (dotsOf (W.take n))) ∧ Kept (fun _ => False) w wr) (fun iv _ _ _ => W.length - (intOf iv).toNat)
  case atStart => exact ⟨0, rfl, Nat.zero_le _, World.ownsRow_nil _ _ _ _, Kept.refl _ _⟩
  case round =>
    obtain ⟨n, rfl, hn, ho, hk⟩ := hrel
    have hn0 : (0 : Int) ≤ n := by omega
    by_cases hlt : n < W.length
    case neg =>
      obtain rfl : n = W.length := by omega
      have hnl : ¬ (W.length : Int) < W.length := by omega
      rw [List.take_length] at ho
      have HO := Lib.hid ho
      have HK := Lib.hid hk
      have HS := Lib.hid (waits_sort ho (by omega) hk.size)
      clear ho
      go_wp2_with (go_at_call 35; refine HS.out.mono ?_; rintro r w2 ⟨rfl, D', hp, hs, ho2, hk2⟩)
      go_ret
      have hlen : D'.length = W.length := by rw [hp.length_eq]; simp [dotsOf]
      exact ⟨_, D', rfl, hp, hs, by rw [hlen]; exact ho2, hk.trans hk2 (fun b hb e => by omega)⟩
    case pos =>
      have hltI : (n : Int) < W.length := by omega
      obtain ⟨e, he⟩ := get_of_lt hlt
      have hWr := owns_keep HW.out hk (fun _ _ h => h)
      obtain ⟨hl0, ⟨_, hno⟩ | ⟨b, cap, hv, hz0, hO⟩⟩ := own_of (E := entE) hWr
      · rw [hno] at hlt; simp at hlt
      injection hv with ha6 hl6 hc6
      subst ha6 hc6
      clear hl0 hz0 hl6 hWr
      have c0 : wr.cell? ⟨b, n * 11, none⟩ = some (.int .i64 e.v.dot.site) := OwnAt.ent hO he (j := 0) rfl
      have c1 : wr.cell? ⟨b, n * 11 + 1, none⟩ = some (.int .i64 e.v.dot.seq) := OwnAt.ent hO he (j := 1) rfl
      have c2 : wr.cell? ⟨b, n * 11 + 2, none⟩ = some (.slice e.v.deps.a e.v.deps.n e.v.deps.c) := OwnAt.ent hO he (j := 2) rfl
      have c3 : wr.cell? ⟨b, n * 11 + 3, none⟩ = some (.int .i64 e.v.kind) := OwnAt.ent hO he (j := 3) rfl
      have c4 : wr.cell? ⟨b, n * 11 + 4, none⟩ = some (.int .i64 e.v.id.t) := OwnAt.ent hO he (j := 4) rfl
      have c5 : wr.cell? ⟨b, n * 11 + 5, none⟩ = some (.int .i64 e.v.id.s) := OwnAt.ent hO he (j := 5) rfl
      have c6 : wr.cell? ⟨b, n * 11 + 6, none⟩ = some (.int .i64 e.v.ref.t) := OwnAt.ent hO he (j := 6) rfl
      have c7 : wr.cell? ⟨b, n * 11 + 7, none⟩ = some (.int .i64 e.v.ref.s) := OwnAt.ent hO he (j := 7) rfl
      have c8 : wr.cell? ⟨b, n * 11 + 8, none⟩ = some (.string e.v.text) := OwnAt.ent hO he (j := 8) rfl
      have c9 : wr.cell? ⟨b, n * 11 + 9, none⟩ = some (.slice e.v.gone.a e.v.gone.n e.v.gone.c) := OwnAt.ent hO he (j := 9) rfl
      have c10 : wr.cell? ⟨b, n * 11 + 10, none⟩ = some (.int .i64 e.v.site) := OwnAt.ent hO he (j := 10) rfl
      have hB := Blk.new wr 34 (opA e.v)
      have k1 : Kept (fun _ => False) wr (wr.alloc (.cells (opA e.v) 34)) := (Kept.refl _ _).alloc _
      have HE := Lib.hid he
      have HO := Lib.hid (owns_keep ho k1 (fun _ _ h => h))
      have HK := Lib.hid (hk.trans k1 (fun _ _ h => h))
      clear he hO ho hk k1
      go_upto_region 7 with fail
      have e1 : wr.alloc (.cells #[.int .i64 e.v.dot.site, .int .i64 e.v.dot.seq, .slice e.v.deps.a e.v.deps.n e.v.deps.c, .int .i64 e.v.kind, .int .i64 e.v.id.t, .int .i64 e.v.id.s, .int .i64 e.v.ref.t, .int .i64 e.v.ref.s, .string e.v.text, .slice e.v.gone.a e.v.gone.n e.v.gone.c, .int .i64 e.v.site] 34) = wr.alloc (.cells (opA e.v) 34) := rfl
      rw [e1]
      clear c0 c1 c2 c3 c4 c5 c6 c7 c8 c9 c10 e1
      generalize hwb : wr.heap.size = bx at *
      generalize wr.alloc (.cells (opA e.v) 34) = w1 at *
      have c0 : w1.cell? ⟨bx, 0, none⟩ = some (.int .i64 e.v.dot.site) := hB.cell' (i := 0) rfl
      have c1 : w1.cell? ⟨bx, 1, none⟩ = some (.int .i64 e.v.dot.seq) := hB.cell' (i := 1) rfl
      have HO2 := Lib.hid (show (w1.alloc (.cells #[.int .i64 e.v.dot.site, .int .i64 e.v.dot.seq] 27)).ownsRow w.heap.size 27 dotE.k _ n (dotE.flat (dotsOf (W.take n))) from HO.out.alloc _)
      have HK2 := Lib.hid (HK.out.alloc (.cells #[.int .i64 e.v.dot.site, .int .i64 e.v.dot.seq] 27))
      have LD := Lib.hid (lit_dot w1 e.v.dot.site e.v.dot.seq)
      have hsz := Lib.hid (HK.out.size)
      have NW := Lib.hid (owns_new HO.out)
      obtain ⟨D, hD⟩ : ∃ D, dotsOf (W.take n) = D := ⟨_, rfl⟩
      have HD := Lib.hid hD
      rw [hD] at HO2
      have hDl : n = D.length := by rw [← hD]; simp [dotsOf]; omega
      have HDL := Lib.hid hDl
      have HO3 := Lib.hid (owns_len HO2.out hDl)
      clear hB HO HK hD hDl HO2
      go_wp2_with (at_builtin; (refine wpList_append_row dotE rfl (.tmp 17) (.tmp 20) 28 rfl w.heap.size 27 (.agg #[.int .i64 0, .int .i64 0]) 16 Try.underlying28 info_dot rfl rfl rfl HO3.out LD.out (by have := HDL.out; unfold maxLen; simp; omega) (by have := HDL.out; simp; omega) (by have := hsz.out; simp; omega) ?_); (intro v2 w2 ho2 hk2; have K2 : Hid (Kept (fun _ => False) w w2) := Lib.hid (HK2.out.trans hk2 (fun b hb e => by have := NW.out b e; omega)); have O2 := Lib.hid ho2; clear hk2 ho2))
      go_roundw
      case rel =>
        refine ⟨n + 1, by go_num, by omega, ?_, K2.out⟩
        rw [List.take_add_one, HE.out]
        have := O2.out
        rw [List.length_append, List.length_singleton, ← HDL.out, ← HD.out] at this
        simpa [dotsOf] using this
      case measure => simp [intOf] <;> omega
end Go.Proofs.Ytaaeomapbigfgaa

