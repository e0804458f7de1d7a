/- TreeGoes: what its inner function does with an element. -/
import Derived.Test.YtlafodnaifghcaaGreatH40
import Derived.Test.YtlafodnaifghcaaGreatH30
import Derived.StillTailTactics
namespace Go.Proofs.YtlafodnaifghcaaGreat.Tr
open Go.RowKit Go.Sort Go.Proofs.YtlafodnaifghcaaGreat.St Go.Proofs.YtlafodnaifghcaaGreat Go.Proofs.YtlafodnaifghcaaGreat.Gl
attribute [local go_sem] Oper.semAt_some
set_option maxRecDepth 100000 in
set_option maxHeartbeats 8000000 in
theorem goin_any {c : GC} (ok : c.Ok) {T0 i g : Nat} {L : List Nd} {va : Option Addr} {vc : Nat} {Y : Nat → Prop} {W : World} {l2 : List StV} (h : GI c (T0 + textN (l2.take i)) i g L (.slice va L.length vc) Y W) {wa : Option Addr} {wc : Nat} (hwv : c.wv = .slice wa l2.length wc)
    (hw : SlAt stE c.w0 (.slice wa l2.length wc) l2) (hs : StepsIn c.w0 l2) (few : Few l2) (hT : T0 ≤ 40000) (hM : c.M0.length ≤ 800000) (hi : i < c.M0.length) (x : Nd) :
    Calls Tryz.prog 17 #[.agg #[.int .i64 x.id.t, .int .i64 x.id.s], .int .i32 x.rune, .pointer (some ⟨c.bn, 0, none⟩), .pointer (some ⟨c.bw, 0, none⟩), .pointer (some ⟨c.bt, 0, none⟩), .pointer (some ⟨c.z, 0, none⟩), .pointer (some ⟨c.bo, 0, none⟩), .pointer (some ⟨c.bi, 0, none⟩), .pointer (some ⟨c.bs, 0, none⟩)] W
      fun e w' => e = .returned (.bool true) ∧ ∃ g' L' va' vc' Y', GI c (T0 + textN (l2.take (i + 1))) (i + 1) g' L' (.slice va' L'.length vc') Y' w' := by
  have h0 : (0 : Int) ≤ i := by omega
  have ew : IntKind.i64.wrap ((i : Int) + 1) = (i : Int) + 1 := IntWalk.i64_in _ (by omega)
  have HS := Lib.hid hs
  have FW := Lib.hid few
  have HW := Lib.hid hw
  have NT : Hid (textN (l2.take i) ≤ 20000) := Lib.hid (Nat.le_trans (textN_take l2 i) few.all)
  have HI := Lib.hid hi
  have H0 := Lib.hid h
  have HWV := Lib.hid hwv
  clear h hs few hw hi hwv
  go_enter Tryz.func17, Tryz.ntmps17
  go_upto_region 1 with fail
  have H1 := Lib.hid (H0.out.still ok ((Kept.refl (fun _ => False) W).alloc (.cells #[.int .i64 x.id.t, .int .i64 x.id.s] 37)))
  obtain ⟨W1, hW1⟩ : ∃ W1, W.alloc (.cells #[.int .i64 x.id.t, .int .i64 x.id.s] 37) = W1 := ⟨_, rfl⟩
  rw [hW1] at H1 ⊢
  clear hW1 H0
  have n1 := H1.out.hn.cell' (i := 0) (v := .int .i64 i) rfl
  have w1 := H1.out.hw.cell' (i := 0) (v := c.wv) rfl
  have hwv := HWV.out
  rw [hwv] at w1
  clear hwv
  by_cases q : i < l2.length
  case neg =>
    have qI : ¬ (i : Int) < l2.length := by omega
    go_upto_region 5 with fail
    clear n1 w1
    have H5 := Lib.hid (H1.out.more (show T0 + textN (l2.take i) ≤ T0 + textN (l2.take (i + 1)) by rw [List.take_of_length_le (l := l2) (i := i) (by omega), List.take_of_length_le (l := l2) (i := i + 1) (by omega)]; exact Nat.le_refl _))
    have o0 := H5.out.ho.cell' (i := 0) (v := .bool true) rfl
    have of := H5.out.ho.frozen 0
    have n0 := H5.out.hn.cell' (i := 0) (v := .int .i64 i) rfl
    have nf := H5.out.hn.frozen 0
    have w0 := H5.out.hw.cell' (i := 0) (v := c.wv) rfl
    have i0 := H5.out.hi.cell' (i := 0) (v := .func (.func 52) #[] #[.pointer (some ⟨c.pl, 0, none⟩)]) rfl
    have s0 := H5.out.hs.cell' (i := 0) (v := c.sv) rfl
    by_cases h6 : (6 : Int) < i
    case' pos =>
      have GX := H5
      go_upto_region 6 with fail
    case' neg =>
      go_upto_region 6 with (first
        | (go_at_call 16; refine (goes_any GX.out.hp GX.out.row GX.out.was (by omega) _).mono ?_; rintro e w9 ⟨rfl, hk9⟩; have GX := Lib.hid (GX.out.still ok hk9); have o0 := GX.out.ho.cell' (i := 0) (v := .bool true) rfl; have of := GX.out.ho.frozen 0; clear hk9)
        | (go_at_call 16; refine (goes_any H5.out.hp H5.out.row H5.out.was (by omega) _).mono ?_; rintro e w8 ⟨rfl, hk8⟩; have GX := Lib.hid (H5.out.still ok hk8); have i0 := GX.out.hi.cell' (i := 0) (v := .func (.func 52) #[] #[.pointer (some ⟨c.pl, 0, none⟩)]) rfl; have s0 := GX.out.hs.cell' (i := 0) (v := c.sv) rfl; clear hk8))
    all_goals
      have G2 := Lib.hid (GX.out.setO ok)
      clear o0 of n0 nf w0 i0 s0
      have n0 := G2.out.hn.cell' (i := 0) (v := .int .i64 i) rfl
      have nf := G2.out.hn.frozen 0
      have G3 := Lib.hid (G2.out.setN ok)
      have o0 := G3.out.ho.cell' (i := 0) (v := .bool true) rfl
      go_wp2_with fail
      go_ret
      exact ⟨rfl, _, _, _, _, _, G3.out⟩
  case pos =>
    have qI : (i : Int) < l2.length := by omega
    obtain ⟨x2, hx⟩ := get_of_lt q
    have hxm := List.mem_of_getElem? hx
    obtain ⟨rs, hst⟩ := HS.out x2 hxm
    have hfx := FW.out.each x2 hxm
    have htk : T0 + textN (l2.take (i + 1)) = T0 + textN (l2.take i) + x2.text.size := by rw [show l2.take (i + 1) = l2.take i ++ [x2] by rw [List.take_add_one, hx]; rfl, textN_snoc]; omega
    obtain ⟨lg, lo, lc', e2, _, hcs⟩ := SlAt.stepc (HW.out.kept H1.out.pj.kept) (by omega)
    cases e2
    obtain ⟨c0, c1, c2, c3, c4, c5, c6, c7, c8⟩ := hcs i x2 hx
    by_cases k8 : x2.kind = 8
    case pos =>
      have H5 := Lib.hid (H1.out.more (show T0 + textN (l2.take i) ≤ T0 + textN (l2.take (i + 1)) by omega))
      clear hcs hx hxm hst hfx htk
      go_upto_region 5 with fail
      clear n1 w1 c0 c1 c2 c3 c4 c5 c6 c7 c8
      have o0 := H5.out.ho.cell' (i := 0) (v := .bool true) rfl
      have of := H5.out.ho.frozen 0
      have n0 := H5.out.hn.cell' (i := 0) (v := .int .i64 i) rfl
      have nf := H5.out.hn.frozen 0
      have w0 := H5.out.hw.cell' (i := 0) (v := c.wv) rfl
      have i0 := H5.out.hi.cell' (i := 0) (v := .func (.func 52) #[] #[.pointer (some ⟨c.pl, 0, none⟩)]) rfl
      have s0 := H5.out.hs.cell' (i := 0) (v := c.sv) rfl
      by_cases h6 : (6 : Int) < i
      case' pos =>
        have GX := H5
        go_upto_region 6 with fail
      case' neg =>
        go_upto_region 6 with (first
          | (go_at_call 16; refine (goes_any GX.out.hp GX.out.row GX.out.was (by omega) _).mono ?_; rintro e w9 ⟨rfl, hk9⟩; have GX := Lib.hid (GX.out.still ok hk9); have o0 := GX.out.ho.cell' (i := 0) (v := .bool true) rfl; have of := GX.out.ho.frozen 0; clear hk9)
          | (go_at_call 16; refine (goes_any H5.out.hp H5.out.row H5.out.was (by omega) _).mono ?_; rintro e w8 ⟨rfl, hk8⟩; have GX := Lib.hid (H5.out.still ok hk8); have i0 := GX.out.hi.cell' (i := 0) (v := .func (.func 52) #[] #[.pointer (some ⟨c.pl, 0, none⟩)]) rfl; have s0 := GX.out.hs.cell' (i := 0) (v := c.sv) rfl; clear hk8))
      all_goals
        have G2 := Lib.hid (GX.out.setO ok)
        clear o0 of n0 nf w0 i0 s0
        have n0 := G2.out.hn.cell' (i := 0) (v := .int .i64 i) rfl
        have nf := G2.out.hn.frozen 0
        have G3 := Lib.hid (G2.out.setN ok)
        have o0 := G3.out.ho.cell' (i := 0) (v := .bool true) rfl
        go_wp2_with fail
        go_ret
        exact ⟨rfl, _, _, _, _, _, G3.out⟩
    case neg =>
      have HD := Lib.hid (does_any H1.out.pj.drew.pt H1.out.ok (by have := NT.out; omega) hst (hst.len hfx.1) (by omega))
      have ho2 := H1.out.ok.step x2 rs
      rw [← htk] at ho2
      have OK2 := Lib.hid ho2
      obtain ⟨M2, hM2⟩ : ∃ M2, goOn x2 rs L = M2 := ⟨_, rfl⟩
      rw [hM2] at HD OK2
      have q0 := H1.out.pj.cell
      have t0 := H1.out.ht.cell' (i := 0) (v := .pointer (some ⟨g, 0, none⟩)) rfl
      have HB := Lib.hid (H1.out.still ok (Kept.refl _ _).drew)
      have nd := ok.nd
      simp only [List.nodup_cons, List.mem_cons, List.not_mem_nil, or_false, not_or] at nd
      have d1 : ¬ c.bt = c.z := nd.2.1.1
      have d2 : ¬ c.z = c.bt := fun e => d1 e.symm
      have d3 : ¬ c.bn = c.bt := fun e => nd.2.1.2.2.2.1 e.symm
      have d4 : ¬ c.bw = c.bt := nd.1.1
      clear hcs hx hxm hst hfx htk ho2 hM2 nd d3 d4
      go_upto_region 3 with fail
      go_cut [12] (fun v wx => v = .bool true ∧ ∃ g' L' va' vc' Y', GI c (T0 + textN (l2.take (i + 1))) i g' L' (.slice va' L'.length vc') Y' wx)
      case first =>
        go_region_with (go_at_call 10; refine HD.out.mono ?_; rintro e w7 ⟨g', ua, uc, rfl, hp, hk⟩; have P7 := Lib.hid (HB.out.does ok hp hk OK2.out); have bz := hk.blk (fun h9 => HB.out.pj.far.2 h9.1) HB.out.pj.box; have bt := hk.blk (fun h9 => HB.out.notY ok (.inr (.inl rfl)) h9.1) HB.out.ht; have z1 := bz.cell' (i := 0) (v := .slice va L.length vc) rfl; have zf := bz.frozen 0; have t1 := bt.cell' (i := 0) (v := .pointer (some ⟨g, 0, none⟩)) rfl; have tf := bt.frozen 0; clear hp hk bz bt)
        all_goals
          go_wp2_with fail
          go_meet
          case rel => exact ⟨rfl, _, _, _, _, _, P7.out⟩
      case rest =>
      obtain ⟨rfl, g9, L9, va9, vc9, Y9, hg9⟩ := hcut
      have P7 := Lib.hid hg9
      have o7 := P7.out.ho.cell' (i := 0) (v := .bool true) rfl
      have o7f := P7.out.ho.frozen 0
      clear hg9 c0 c1 c2 c3 c4 c5 c6 c7 c8 n1 w1 q0 t0 HD HB d1 d2
      go_upto_region 5 with fail
      have H5 := Lib.hid (P7.out.setO ok)
      clear o7 o7f
      have o0 := H5.out.ho.cell' (i := 0) (v := .bool true) rfl
      have of := H5.out.ho.frozen 0
      have n0 := H5.out.hn.cell' (i := 0) (v := .int .i64 i) rfl
      have nf := H5.out.hn.frozen 0
      have w0 := H5.out.hw.cell' (i := 0) (v := c.wv) rfl
      have i0 := H5.out.hi.cell' (i := 0) (v := .func (.func 52) #[] #[.pointer (some ⟨c.pl, 0, none⟩)]) rfl
      have s0 := H5.out.hs.cell' (i := 0) (v := c.sv) rfl
      by_cases h6 : (6 : Int) < i
      case' pos =>
        have GX := H5
        go_upto_region 6 with fail
      case' neg =>
        go_upto_region 6 with (first
          | (go_at_call 16; refine (goes_any GX.out.hp GX.out.row GX.out.was (by omega) _).mono ?_; rintro e w9 ⟨rfl, hk9⟩; have GX := Lib.hid (GX.out.still ok hk9); have o0 := GX.out.ho.cell' (i := 0) (v := .bool true) rfl; have of := GX.out.ho.frozen 0; clear hk9)
          | (go_at_call 16; refine (goes_any H5.out.hp H5.out.row H5.out.was (by omega) _).mono ?_; rintro e w8 ⟨rfl, hk8⟩; have GX := Lib.hid (H5.out.still ok hk8); have i0 := GX.out.hi.cell' (i := 0) (v := .func (.func 52) #[] #[.pointer (some ⟨c.pl, 0, none⟩)]) rfl; have s0 := GX.out.hs.cell' (i := 0) (v := c.sv) rfl; clear hk8))
      all_goals
        have G2 := Lib.hid (GX.out.setO ok)
        clear o0 of n0 nf w0 i0 s0
        have n0 := G2.out.hn.cell' (i := 0) (v := .int .i64 i) rfl
        have nf := G2.out.hn.frozen 0
        have G3 := Lib.hid (G2.out.setN ok)
        have o0 := G3.out.ho.cell' (i := 0) (v := .bool true) rfl
        go_wp2_with fail
        go_ret
        exact ⟨rfl, _, _, _, _, _, G3.out⟩
end Go.Proofs.YtlafodnaifghcaaGreat.Tr
