/- hearsaylaw11.TreeGoes, walked. -/
import Derived.Test.YtlafodnaifghcaaGreatH40
import Derived.Test.YtlafodnaifghcaaGreatHTrGoIn1
import Derived.Laws.EntriesVeiled
namespace Go.Proofs.YtlafodnaifghcaaGreat.Tr
open Go.RowKit Go.Sort Go.Proofs.YtlafodnaifghcaaGreat.St Go.Proofs.YtlafodnaifghcaaGreat Go.Proofs.YtlafodnaifghcaaGreat.Gl
attribute [local go_sem] Oper.semAt_some
set_option maxRecDepth 100000 in
set_option maxHeartbeats 8000000 in
theorem treegoes_any {w : World} {v u : Value} {L1 L2 : List StV} (h1 : SlAt stE w v L1) (hs1 : StepsIn w L1) (h2 : SlAt stE w u L2) (hs2 : StepsIn w L2) (stop : Int) :
    Calls Tryz.prog 6 #[v, u, .int .i64 stop] w fun e w' => e = .returned (.bool true) ∧ Kept (fun _ => False) w w' := by
  obtain ⟨la, lc, rfl, _, _⟩ := h1.sl
  obtain ⟨ma, mc, rfl, _, _⟩ := h2.sl
  have HL1 := Lib.hid h1
  have HS1 := Lib.hid hs1
  have HL2 := Lib.hid h2
  have HS2 := Lib.hid hs2
  have ka : Kept (fun _ => False) w (w.alloc (.cells #[.slice ma L2.length mc] 22)) := (Kept.refl _ _).alloc _
  have MU1 := Lib.hid (much_any (h1.kept ka) fun s hm => by obtain ⟨rs, h9⟩ := hs1 s hm; exact h9.text)
  have MU2 := Lib.hid (fun (_ : True) => much_any (h2.kept ka) fun s hm => by obtain ⟨rs, h9⟩ := hs2 s hm; exact h9.text)
  have KA := Lib.hid ka
  have w0 := (Blk.new w 22 #[.slice ma L2.length mc]).cell' (i := 0) (v := .slice ma L2.length mc) rfl
  have J := Lib.hid (gl_made w (.slice ma L2.length mc))
  clear h1 hs1 h2 hs2 ka
  go_enter Tryz.func6, Tryz.ntmps6
  go_wp2_with (first
    | (go_at_call 7; refine (MU2.out KM.out).mono ?_; rintro e w1 ⟨b2, rfl, hf2, rfl⟩)
    | (go_at_call 7; refine MU1.out.mono ?_; rintro e w1 ⟨b1, rfl, hf1, rfl⟩; have KM := Lib.hid True.intro)
    | (go_at_call 8; refine (known_any _).mono ?_; rintro e w1 ⟨rfl, hk⟩)
    | (go_at_call 9; refine (new_any _).mono ?_; rintro e w1 ⟨rfl, rfl⟩))
  · go_ret
    exact ⟨rfl, KA.out.trans hk fun _ _ h => h⟩
  · go_ret
    exact ⟨rfl, KA.out.trans hk fun _ _ h => h⟩
  have F1 := Lib.hid (hf1 (by simpa using ‹¬ b1 = true›))
  have F2 := Lib.hid (hf2 ‹b2 = false›)
  obtain ⟨bw, hbw⟩ : ∃ z, w.heap.size = z := ⟨_, rfl⟩
  rw [hbw] at J ⊢
  obtain ⟨z, hz⟩ : ∃ z, bw + 1 + 1 + 1 = z := ⟨_, rfl⟩
  rw [hz] at J ⊢
  obtain ⟨bt, hbt⟩ : ∃ z, bw + 1 + 1 = z := ⟨_, rfl⟩
  rw [hbt] at J ⊢
  clear hf1 hf2 hbw hz hbt MU1 MU2 KM w0
  have FL1 := F1.out.len
  go_loopw [9] (fun iv wr => ∃ (n g : Nat) (va : Option Addr) (vc : Nat) (M : List Nd) (Y : Nat → Prop), iv = .int .i64 n ∧ n ≤ L1.length ∧ GL w bw bt z (.slice ma L2.length mc) g M (.slice va M.length vc) Y wr ∧ OkN M (textN (L1.take n))) (fun iv _ => L1.length - (intOf iv).toNat)
  case atStart => exact ⟨0, _, none, 0, [], _, rfl, Nat.zero_le _, J.out, okN_nil _⟩
  case round =>
    clear J
    obtain ⟨n, g, va, vc, M, Y, rfl, hn, hj, ho⟩ := hrel
    have hn0 : (0 : Int) ≤ n := by omega
    have HJ := Lib.hid hj
    have HO := Lib.hid ho
    have NT : Hid (textN (L1.take n) ≤ 20000) := Lib.hid (Nat.le_trans (textN_take L1 n) F1.out.all)
    clear hj ho
    by_cases hlt : n < L1.length
    case pos =>
      have hnl : (n : Int) < L1.length := by omega
      obtain ⟨x, hx⟩ := get_of_lt hlt
      have hxm := List.mem_of_getElem? hx
      obtain ⟨rs, hst⟩ := HS1.out x hxm
      have hfx := F1.out.each x hxm
      have htk : textN (L1.take (n + 1)) = textN (L1.take n) + x.text.size := by rw [show L1.take (n + 1) = L1.take n ++ [x] by rw [List.take_add_one, hx]; rfl, textN_snoc]
      obtain ⟨lg, lo, lc', e2, _, hcs⟩ := SlAt.stepc (HL1.out.kept HJ.out.pj.kept) (by omega)
      cases e2
      obtain ⟨c0, c1, c2, c3, c4, c5, c6, c7, c8⟩ := hcs n x hx
      have e1 : IntKind.i64.wrap ((n : Int) + 1) = (n : Int) + 1 := IntWalk.i64_in _ (by omega)
      have HD := Lib.hid (does_any HJ.out.pj.drew.pt HO.out (by have := NT.out; omega) hst (hst.len hfx.1) (by omega))
      have ho2 := HO.out.step x rs
      rw [← htk] at ho2
      have OK2 := Lib.hid ho2
      obtain ⟨M2, hM2⟩ : ∃ M2, goOn x rs M = M2 := ⟨_, rfl⟩
      rw [hM2] at HD OK2
      have q0 := HJ.out.pj.cell
      have t0 := HJ.out.ht.cell' (i := 0) (v := .pointer (some ⟨g, 0, none⟩)) rfl
      have HB := Lib.hid (HJ.out.still (Kept.refl _ _).drew)
      have d1 := HJ.out.ne.2.2
      have d2 : ¬ z = bt := fun e => d1 e.symm
      clear hcs hx hxm hst hfx htk ho2 hM2
      go_upto_region 11 with fail
      go_region_with (go_at_call 10; refine HD.out.mono ?_; rintro e w7 ⟨g', ua, uc, rfl, hp, hk⟩; have P7 := Lib.hid (HB.out.does hp hk); have bz := hk.blk (fun h9 => HB.out.pj.far.2 h9.1) HB.out.pj.box; have bb := hk.blk (fun h9 => HB.out.far.2.1 h9.1) HB.out.ht; have z1 := bz.cell' (i := 0) (v := .slice va M.length vc) rfl; have zf := bz.frozen 0; have t1 := bb.cell' (i := 0) (v := .pointer (some ⟨g, 0, none⟩)) rfl; have tf := bb.frozen 0; clear hp hk bz bb)
      all_goals
        go_wp2_with fail
        go_roundw
        case rel => exact ⟨n + 1, _, _, _, _, _, by go_num, by omega, P7.out, OK2.out⟩
        case measure => simp [intOf]; omega
    case neg =>
      have hnl : ¬ (n : Int) < L1.length := by omega
      have hM : M.length ≤ 20000 := Nat.le_trans HO.out.len NT.out
      have t0 := HJ.out.ht.cell' (i := 0) (v := .pointer (some ⟨g, 0, none⟩)) rfl
      have ALL := Lib.hid (HJ.out.pj.pt.all (by omega))
      have hM0 := Lib.hid hM
      have hnil := seq_is_nil
      clear hlt hM
      go_upto_region 15 with (go_at_call 15; refine ALL.out.mono ?_; rintro e w8 ⟨⟨pl, pv, rfl, hpl, hpb, hpo⟩, hk8⟩; have K8 := Lib.hid hk8; have PL := Lib.hid hpl; have PB := Lib.hid hpb; have PO := Lib.hid hpo; clear hpl hpb hpo hk8)
      have k9 : Kept (fun _ => False) w8 (w8.alloc (.cells #[.func (.func 52) #[] #[.pointer (some ⟨pl, 0, none⟩)]] 54)) := (Kept.refl _ _).alloc _
      have K9 := Lib.hid (K8.out.trans k9 fun _ _ h => h)
      have b9 := (Blk.new w8 54 #[.func (.func 52) #[] #[.pointer (some ⟨pl, 0, none⟩)]])
      have B9 := Lib.hid b9
      have GO1 := Lib.hid (goes_any (k9.blk id PB.out) ((owns_slAt (E := nodeE) PO.out).kept k9) ((HJ.out.pj.pt.row).kept K9.out) (by have := hM0.out; omega) stop)
      have i9 := b9.cell' (i := 0) (v := .func (.func 52) #[] #[.pointer (some ⟨pl, 0, none⟩)]) rfl
      have z9 := (HJ.out.still K9.out).pj.cell
      have GS := Lib.hid (fun (w10 : World) hk => go_start HJ.out K8.out PL.out PB.out PO.out (w10 := w10) hk HO.out)
      clear b9 k9 t0
      go_upto_region 18 with (go_at_call 16; refine GO1.out.mono ?_; rintro e w10 ⟨rfl, hk10⟩; have K10 := Lib.hid hk10; have z10 := hk10.cell z9; clear hk10)
      have z11 : (w10.alloc (.cells #[.slice va M.length vc] 31)).heap.size = w10.heap.size + 1 := World.size_alloc ..
      go_upto_region 20 with fail
      obtain ⟨N, F0, R0, okc, Y2, hgi⟩ := GS.out w10 K10.out
      obtain ⟨w13, hw13⟩ : ∃ w13, ((w10.alloc (.cells #[.slice va M.length vc] 31)).alloc (.cells #[.int .i64 0] 3)).alloc (.cells #[.bool true] 4) = w13 := ⟨_, rfl⟩
      obtain ⟨bi, hbi⟩ : ∃ b, w8.heap.size = b := ⟨_, rfl⟩
      obtain ⟨bo, hbo⟩ : ∃ b, w10.heap.size + 1 + 1 = b := ⟨_, rfl⟩
      obtain ⟨bn, hbn⟩ : ∃ b, w10.heap.size + 1 = b := ⟨_, rfl⟩
      obtain ⟨bs, hbs⟩ : ∃ b, w10.heap.size = b := ⟨_, rfl⟩
      rw [hw13, hbi, hbo, hbn, hbs] at hgi
      rw [hbi, hbo, hbn, hbs] at okc
      rw [hw13, hbi, hbo, hbn, hbs]
      have OK := Lib.hid okc
      have GI0 := Lib.hid hgi
      clear hw13 hbi hbo hbn hbs okc hgi GS K10 z10 z9 i9 GO1 B9 K9 z11 ALL
      have HL := Lib.hid (shL_le M)
      have IT : Hid (Calls Tryz.prog 52 #[.func (.func 17) #[] #[.pointer (some ⟨bn, 0, none⟩), .pointer (some ⟨bw, 0, none⟩), .pointer (some ⟨bt, 0, none⟩), .pointer (some ⟨z, 0, none⟩), .pointer (some ⟨bo, 0, none⟩), .pointer (some ⟨bi, 0, none⟩), .pointer (some ⟨bs, 0, none⟩)], .pointer (some ⟨pl, 0, none⟩)] w13 fun e w' => e = .returned (.tuple #[]) ∧ ∃ (g : Nat) (L : List Nd) (va' : Option Addr) (vc' : Nat) (Y : Nat → Prop), GI ⟨w, N, F0, R0, bw, bt, z, bi, bs, bn, bo, pl, .slice ma L2.length mc, pv, .slice va M.length vc, M⟩ (textN (L1.take n) + textN (L2.take (shL M).length)) (shL M).length g L (.slice va' L.length vc') Y w') := Lib.hid (by
        refine (allp_any (L := shL M) (pl := pl) (v := pv) (by have := HL.out; have := hM0.out; omega) 17 _ (fun i W => ∃ (g : Nat) (L : List Nd) (va' : Option Addr) (vc' : Nat) (Y : Nat → Prop), GI ⟨w, N, F0, R0, bw, bt, z, bi, bs, bn, bo, pl, .slice ma L2.length mc, pv, .slice va M.length vc, M⟩ (textN (L1.take n) + textN (L2.take i)) i g L (.slice va' L.length vc') Y W) (fun _ => False) ?_ ?_ ?_ ?_ ⟨_, _, _, _, _, GI0.out⟩).mono ?_
        · rintro i W ⟨_, _, _, _, _, h9⟩
          exact ⟨h9.hp.cell' (i := 0) rfl, h9.row⟩
        · rintro i W W' ⟨_, _, _, _, _, h9⟩ hk
          exact ⟨_, _, _, _, _, h9.still OK.out hk⟩
        · rintro i x W hx ⟨_, _, _, _, _, h9⟩
          refine (goin_any OK.out h9 rfl HL2.out HS2.out F2.out (by have := NT.out; omega) (by show M.length ≤ 800000; have := hM0.out; omega) (by show i < M.length; have := HL.out; have := (List.getElem?_eq_some_iff.1 hx).1; omega) x).mono ?_
          rintro e w' ⟨rfl, h8⟩
          exact ⟨true, rfl, fun _ => h8, fun hb => by cases hb⟩
        · exact enters_of Tryz.func17 (by kernel_rfl) rfl
        · rintro e w' ⟨he, h9 | h9⟩
          · exact ⟨he, h9⟩
          · exact h9.elim)
      have i13 := GI0.out.hi.cell' (i := 0) (v := .func (.func 52) #[] #[.pointer (some ⟨pl, 0, none⟩)]) rfl
      obtain ⟨sl, hsl⟩ : ∃ sl, (shL M).length = sl := ⟨_, rfl⟩
      rw [hsl] at IT
      have SL := Lib.hid hsl
      clear hsl
      go_upto_region 21 with (refine IT.out.mono ?_; rintro e w20 ⟨rfl, g', L', va', vc', Y', h4⟩; have G4 := Lib.hid h4; clear h4)
      clear i13
      have GOS : Hid (∀ W1, Kept (fun _ => False) w20 W1 → Calls Tryz.prog 16 #[.func (.func 52) #[] #[.pointer (some ⟨pl, 0, none⟩)], .slice va M.length vc, .int .i64 0] W1 fun e w' => e = .returned (.bool true) ∧ Kept (fun _ => False) w20 w') := Lib.hid fun W1 hk => (goes_any (G4.out.still OK.out hk).hp (G4.out.still OK.out hk).row (G4.out.still OK.out hk).was (by show M.length ≤ 900000; have := hM0.out; omega) 0).mono fun e w' h9 => ⟨h9.1, hk.trans h9.2 fun _ _ h => h⟩
      have RLN : Hid (∀ W1, Kept (fun _ => False) w20 W1 → Calls Tryz.prog 18 #[.agg #[.slice va M.length vc]] W1 fun e w' => e = .returned (.int .i64 sl) ∧ Kept (fun _ => False) w20 w') := Lib.hid fun W1 hk => (rlen_any (G4.out.still OK.out hk).was (by show M.length ≤ 900000; have := hM0.out; omega)).mono fun e w' h9 => by
        have h8 := h9.1
        rw [show (shL (⟨w, N, F0, R0, bw, bt, z, bi, bs, bn, bo, pl, .slice ma L2.length mc, pv, .slice va M.length vc, M⟩ : GC).M0).length = sl from SL.out] at h8
        exact ⟨h8, hk.trans h9.2 fun _ _ h => h⟩
      have LB : Hid (L'.length ≤ 800000) := Lib.hid (by have h8 := G4.out.ok.len; have h7 := NT.out; have h6 := textN_take L2 sl; have h5 := F2.out.all; omega)
      have ALK : Hid (∀ W1, Kept (fun _ => False) w20 W1 → Calls Tryz.prog 11 #[.pointer (some ⟨g', 0, none⟩), .agg #[.slice va' L'.length vc']] W1 fun e w' => e = .returned (.bool true) ∧ Kept (fun _ => False) w20 w') := Lib.hid fun W1 hk => ((G4.out.still OK.out hk).pj.pt.alike LB.out fun n hn => (G4.out.ok.ok n hn).1).mono fun e w' h9 => ⟨h9.1, hk.trans h9.2 fun _ _ h => h⟩
      have KNO : Hid (∀ W1, Kept (fun _ => False) w20 W1 → Calls Tryz.prog 8 #[] W1 fun e w' => e = .returned (.bool true) ∧ Kept (fun _ => False) w20 w') := Lib.hid fun W1 hk => (known_any W1).mono fun e w' h9 => ⟨h9.1, hk.trans h9.2 fun _ _ h => h⟩
      have XS : Hid (∀ W1, Kept (fun _ => False) w20 W1 → (W1.cell? ⟨bo, 0, none⟩ = some (.bool true) ∧ W1.cell? ⟨bi, 0, none⟩ = some (.func (.func 52) #[] #[.pointer (some ⟨pl, 0, none⟩)]) ∧ W1.cell? ⟨bs, 0, none⟩ = some (.slice va M.length vc) ∧ W1.cell? ⟨bn, 0, none⟩ = some (.int .i64 sl) ∧ W1.cell? ⟨bt, 0, none⟩ = some (.pointer (some ⟨g', 0, none⟩)) ∧ W1.cell? ⟨z, 0, none⟩ = some (.slice va' L'.length vc'))) := Lib.hid fun W1 hk =>
        have h9 := G4.out.still OK.out hk
        ⟨h9.ho.cell' (i := 0) rfl, h9.hi.cell' (i := 0) rfl, h9.hs.cell' (i := 0) rfl, h9.hn.cell' (i := 0) rfl, h9.ht.cell' (i := 0) rfl, h9.pj.cell⟩
      have KF := Lib.hid G4.out.pj.kept
      clear SL LB OK HL NT hM0
      go_region_held3 (fun W1 : World => W1.cell? ⟨bo, 0, none⟩ = some (.bool true) ∧ W1.cell? ⟨bi, 0, none⟩ = some (.func (.func 52) #[] #[.pointer (some ⟨pl, 0, none⟩)]) ∧ W1.cell? ⟨bs, 0, none⟩ = some (.slice va M.length vc) ∧ W1.cell? ⟨bn, 0, none⟩ = some (.int .i64 sl) ∧ W1.cell? ⟨bt, 0, none⟩ = some (.pointer (some ⟨g', 0, none⟩)) ∧ W1.cell? ⟨z, 0, none⟩ = some (.slice va' L'.length vc')) (first | exact XS.out _ (Kept.refl _ _) | exact XS.out _ (Kept.refl _ _).drew | exact XS.out _ K21.out | exact XS.out _ K22.out | exact XS.out _ K23.out | exact XS.out _ K24.out) (first
        | (go_at_call 16; (first | refine (GOS.out _ (Kept.refl _ _)).mono ?_ | refine (GOS.out _ (Kept.refl _ _).drew).mono ?_); rintro e w21 ⟨rfl, hk⟩; have K21 := Lib.hid hk; clear hk)
        | (go_at_call 18; refine (RLN.out _ K21.out).mono ?_; rintro e w22 ⟨rfl, hk⟩; have K22 := Lib.hid hk; clear hk)
        | (go_at_call 11; refine (ALK.out _ K22.out).mono ?_; rintro e w23 ⟨rfl, hk⟩; have K23 := Lib.hid hk; clear hk)
        | (go_at_call 8; refine (KNO.out _ K23.out).mono ?_; rintro e w24 ⟨rfl, hk⟩; have K24 := Lib.hid hk; clear hk))
      all_goals go_wp2_with fail
      all_goals go_ret
      all_goals exact ⟨rfl, KF.out.trans K24.out fun _ _ h => h⟩
end Go.Proofs.YtlafodnaifghcaaGreat.Tr
