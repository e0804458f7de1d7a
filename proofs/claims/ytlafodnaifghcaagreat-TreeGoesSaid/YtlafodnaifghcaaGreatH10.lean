/- Len, by a range over shown. All, by a range over shown. All's iterator: for a function that is handed to it, and in a range over a function. hearsayref11: IsID, lower, at, Named. -/
import Derived.Test.YtlafodnaifghcaaGreatH9
import Derived.IntWalk
namespace Go.Proofs.YtlafodnaifghcaaGreat.Tr
open Go.RowKit Go.Proofs.YtlafodnaifghcaaGreat.St Go.Shelf
attribute [local go_sem] Oper.semAt_some
theorem shown_any (g : Nat) (w : World) : Calls Tryz.prog 51 #[.pointer (some ⟨g, 0, none⟩)] w fun e w' =>
    e = .returned (.func (.func 85) #[] #[.pointer (some ⟨w.heap.size, 0, none⟩)]) ∧ w' = w.alloc (.cells #[.pointer (some ⟨g, 0, none⟩)] 25) := by
  go_enter Tryz.func51, Tryz.ntmps51
  go_wp2
  go_ret
  exact ⟨rfl, rfl⟩
theorem shL_le (L : List Nd) : (shL L).length ≤ L.length := List.length_filter_le _ _
def lenB (z g : Nat) (k : Int) : List Box := [(z, 3, #[.int .i64 k]), (z + 1, 25, #[.pointer (some ⟨g, 0, none⟩)])]
theorem lenB_nodup (z g : Nat) (k : Int) : ((lenB z g k).map (·.1)).Nodup := by simp [lenB]
def lenJ (w : World) (B g : Nat) (L : List Nd) (A : ID → Nat) (S : ID → Rw) (mp : Option Nat) (i : Nat) (X : Nat → Prop) (W : World) : Prop := CJ w B (fun _ => False) (lenB w.heap.size g i) g L A S mp X W
set_option maxHeartbeats 8000000 in
theorem len_any {w : World} {g : Nat} {L : List Nd} {A : ID → Nat} {S : ID → Rw} {mp : Option Nat} (h : TAt w g L A S mp) (hdoc : Doc L) (hlen : L.length ≤ 900000) :
    Calls Tryz.prog 30 #[.pointer (some ⟨g, 0, none⟩)] w fun e w' => e = .returned (.int .i64 (shL L).length) ∧ Kept (fun _ => False) w w' := by
  refine (callsIn_wide (n := 6)).1 ?_
  refine callsIn_of_wp_marks Tryz.func30 rfl trivial ?_ rfl
  simp only [Tryz.ntmps30, List.size_toArray, List.length_cons, List.length_nil, Nat.reduceAdd, Nat.reduceSub, Array.replicate_succ, Array.replicate_zero, List.push_toArray, List.append_toArray, List.nil_append, List.cons_append]
  gi_wp2_with (refine ⟨trivial, ?_⟩; gi_at_call 51; refine (callsIn_wide.2 (shown_any g _)).mono ?_; rintro e w' ⟨rfl, rfl⟩)
  obtain ⟨W0, hW0⟩ : ∃ W0, ((w.alloc (.cells #[.int .i64 0] 3)).alloc (.cells #[.pointer (some ⟨g, 0, none⟩)] 25)) = W0 := ⟨_, rfl⟩
  have hC : CJ w W0.heap.size (fun _ => False) (lenB w.heap.size g 0) g L A S mp (fun _ => False) W0 := by
    rw [← hW0]
    have h9 := ((CJ.start (M := fun _ => False) h).boxed #[.int .i64 0] 3).boxed #[.pointer (some ⟨g, 0, none⟩)] 25
    simp only [World.size_alloc] at h9 ⊢
    exact h9
  rw [hW0]
  clear hW0
  refine wpIn_iter rfl (by decide) (gf := 85) (lb := #[.pointer (some ⟨w.heap.size + 1, 0, none⟩)]) rfl trivial (enters_of Tryz.func85 (by kernel_rfl) rfl) (shown1_iter (A := A) (S := S) (g := g) (mp := mp) hdoc hlen) (fun _ _ => rfl) W0.heap.size rfl (lenJ w W0.heap.size g L A S mp) (fun _ _ _ => False) ?hrd ?hgr ?hgx ?hob ?hox ?h0 ?round ?done ?stop
  case hrd => intro i X W hJ; exact ⟨hJ.cell 1 rfl 0 rfl, hJ.tree⟩
  case hgr => intro i X W W' hJ hk; exact CJ.grow hJ hk
  case hgx => intro c X W W' h _; exact h
  case hob => intro i X W o' hJ; exact CJ.put hJ (Nat.le_succ _) o'
  case hox => intro c X W o' h; exact h
  case h0 => intro o1 o2; exact (hC.alloc o1).alloc o2
  case round =>
    intro i W K hi hK
    have hle := shL_le L
    have hs2 : (i : Int) ≤ 900000 := by omega
    unfold shEnc
    generalize nth (shL L) i = m
    clear hle
    gi_wp2
    rintro X W h2 hJ
    have hJ : CJ w W0.heap.size (fun _ => False) (lenB w.heap.size g i) g L A S mp X W := hJ
    have HJ := Lib.hid hJ
    have H2 := Lib.hid h2
    have c0 : W.cell? ⟨w.heap.size, 0, none⟩ = some (.int .i64 i) := hJ.cell 0 rfl 0 rfl
    have f0 := hJ.frozen 0 rfl 0
    clear hJ h2
    gi_wp2
    have ho := HJ.out.off H2.out (Y := (· = w.heap.size)) (kept_cell W w.heap.size (.int .i64 ((i : Int) + 1))) (fun b hb => by rw [hb]; exact (HJ.out.box _ (.head _)).1.2)
    refine ⟨ho.1, ho.2, ?_⟩
    show CJ _ _ _ (lenB w.heap.size g ((i + 1 : Nat) : Int)) _ _ _ _ _ _ _
    rw [show ((i + 1 : Nat) : Int) = (i : Int) + 1 by omega]
    exact HJ.out.set 0 (.int .i64 ((i : Int) + 1)) rfl (lenB_nodup ..)
  case done =>
    rintro X W hJ hK
    have hJ : CJ w W0.heap.size (fun _ => False) (lenB w.heap.size g (shL L).length) g L A S mp X W := hJ
    have HJ := Lib.hid hJ
    have HK := Lib.hid hK
    have c0 : W.cell? ⟨w.heap.size, 0, none⟩ = some (.int .i64 (shL L).length) := hJ.cell 0 rfl 0 rfl
    clear hJ hK
    gi_wp2
    exact ret_range HK.out (results_tmp rfl _ _ _) ⟨rfl, (HJ.out.taken (.deferred none)).kept⟩
  case stop =>
    rintro c X W h _
    exact h.elim
end Go.Proofs.YtlafodnaifghcaaGreat.Tr
namespace Go.Proofs.YtlafodnaifghcaaGreat.Tr
open Go.RowKit Go.Proofs.YtlafodnaifghcaaGreat.St Go.Shelf
attribute [local go_sem] Oper.semAt_some
def allJ (w : World) (B g : Nat) (L : List Nd) (A : ID → Nat) (S : ID → Rw) (mp : Option Nat) (i : Nat) (X : Nat → Prop) (W : World) : Prop :=
  Gro nodeE 45 w B (fun _ => False) (nodesB w.heap.size g) g L A S mp ((shL L).take i) X W
set_option maxRecDepth 100000 in
set_option maxHeartbeats 8000000 in
theorem allf_any {w : World} {g : Nat} {L : List Nd} {A : ID → Nat} {S : ID → Rw} {mp : Option Nat} (h : TAt w g L A S mp) (hdoc : Doc L) (hlen : L.length ≤ 900000) :
    Calls Tryz.prog 15 #[.pointer (some ⟨g, 0, none⟩)] w fun e w' => (∃ b v, e = .returned (.func (.func 52) #[] #[.pointer (some ⟨b, 0, none⟩)]) ∧ w.heap.size ≤ b ∧ Blk w' b 31 #[v] ∧ w'.ownsRow w.heap.size 45 6 v (shL L).length (nodeE.flat (shL L))) ∧ Kept (fun _ => False) w w' := by
  refine (callsIn_wide (n := 6)).1 ?_
  refine callsIn_of_wp_marks Tryz.func15 rfl trivial ?_ rfl
  simp only [Tryz.ntmps15, List.size_toArray, List.length_cons, List.length_nil, Nat.reduceAdd, Nat.reduceSub, Array.replicate_succ, Array.replicate_zero, List.push_toArray, List.append_toArray, List.nil_append, List.cons_append]
  gi_wp2_with (refine ⟨trivial, ?_⟩; gi_at_call 51; refine (callsIn_wide.2 (shown_any g _)).mono ?_; rintro e w' ⟨rfl, rfl⟩)
  obtain ⟨W0, hW0⟩ : ∃ W0, ((w.alloc (.cells #[.slice none 0 0] 31)).alloc (.cells #[.pointer (some ⟨g, 0, none⟩)] 25)) = W0 := ⟨_, rfl⟩
  have hC : CJ w W0.heap.size (fun _ => False) (nodesB w.heap.size g (.slice none 0 0)) g L A S mp (fun _ => False) W0 := by
    rw [← hW0]
    have h9 := (((CJ.start (M := fun _ => False) h).boxed #[.slice none 0 0] 31)).boxed #[.pointer (some ⟨g, 0, none⟩)] 25
    simp only [World.size_alloc] at h9 ⊢
    exact h9
  rw [hW0]
  clear hW0
  refine wpIn_iter rfl (by decide) (gf := 85) (lb := #[.pointer (some ⟨w.heap.size + 1, 0, none⟩)]) rfl trivial (enters_of Tryz.func85 (by kernel_rfl) rfl) (shown1_iter (A := A) (S := S) (g := g) (mp := mp) hdoc hlen) (fun _ _ => rfl) W0.heap.size rfl (allJ w W0.heap.size g L A S mp) (fun _ _ _ => False) ?hrd ?hgr ?hgx ?hob ?hox ?h0 ?round ?done ?stop
  case hrd => rintro i X W ⟨v, hJ, _⟩; exact ⟨hJ.cell 1 rfl 0 rfl, hJ.tree⟩
  case hgr => intro i X W W' hJ hk; exact Gro.grow hJ hk
  case hgx => intro c X W W' h _; exact h
  case hob => intro i X W o' hJ; exact Gro.put hJ o'
  case hox => intro c X W o' hJ; exact hJ
  case h0 =>
    intro o1 o2
    have h9 : Gro nodeE 45 w W0.heap.size (fun _ => False) (nodesB w.heap.size g) g L A S mp [] (fun _ => False) W0 := ⟨_, hC, World.ownsRow_nil .., fun b hb => by cases hb⟩
    exact (h9.alloc o1).alloc o2
  case round =>
    intro i W K hi hK
    have hm := nth_lt hi
    unfold shEnc
    generalize nth (shL L) i = m at hm ⊢
    gi_wp2
    rintro X W h2 ⟨v, hJ, hO, hX⟩
    have hmL : m ∈ L := (List.mem_filter.1 (List.mem_of_getElem? hm)).1
    have he := hJ.tree.elt m hmL
    have e0 : W.cell? ⟨A m.id, 0, none⟩ = some (.int .i64 m.id.t) := he.cell' rfl
    have e1 : W.cell? ⟨A m.id, 1, none⟩ = some (.int .i64 m.id.s) := he.cell' rfl
    have e2 : W.cell? ⟨A m.id, 2, none⟩ = some (.int .i64 m.ref.t) := he.cell' rfl
    have e3 : W.cell? ⟨A m.id, 3, none⟩ = some (.int .i64 m.ref.s) := he.cell' rfl
    have e4 : W.cell? ⟨A m.id, 4, none⟩ = some (.int .i32 m.rune) := he.cell' rfl
    have e5 : W.cell? ⟨A m.id, 5, none⟩ = some (.int .i64 m.st) := he.cell' rfl
    obtain ⟨va, vc, rfl⟩ := owns_sl hO
    have f0 := hJ.frozen 0 rfl 0
    have hlen2 : ((shL L).take i).length ≤ 1000000 := by have := List.length_take_le i (shL L); have := shL_le L; omega
    have hli : ((shL L).take i).length = i := by rw [List.length_take]; omega
    have n1 : ¬ A m.id = w.heap.size := by have := hJ.low (A m.id) (.inr (.inr (.inl ⟨m.id, List.mem_map.2 ⟨m, hmL, rfl⟩, rfl⟩))); omega
    have hzl : w.heap.size < W.heap.size := (hJ.at_ 0 rfl).lt
    have hlit : SlAt nodeE (W.drew.alloc (.cells #[.int .i64 m.id.t, .int .i64 m.id.s, .int .i64 m.ref.t, .int .i64 m.ref.s, .int .i32 m.rune, .int .i64 m.st] 45)) (.slice (some ⟨W.heap.size, 0, none⟩) 1 1) [m] := SlAt.lit [m] _ (by simp [Enc.flat, nodeE, ndC]) (by unfold maxLen; simp)
    have hk1 : Kept (fun _ => False) W (W.drew.alloc (.cells #[.int .i64 m.id.t, .int .i64 m.id.s, .int .i64 m.ref.t, .int .i64 m.ref.s, .int .i32 m.rune, .int .i64 m.st] 45)) := ((Kept.refl _ _).drew).alloc _
    have hown := owns_keep hO hk1 (fun _ _ h => h)
    rw [show Value.slice va ((shL L).take i).length vc = .slice va i vc by rw [hli]] at hown hO hJ hX
    have HOWN := Lib.hid hown
    have HK1 := Lib.hid hk1
    have HB := Lib.hid (show W0.heap.size + 2 ≤ (W.drew.alloc (.cells #[.int .i64 m.id.t, .int .i64 m.id.s, .int .i64 m.ref.t, .int .i64 m.ref.s, .int .i32 m.rune, .int .i64 m.st] 45)).heap.size by simp; omega)
    clear hown hk1
    have c0 : W.cell? ⟨w.heap.size, 0, none⟩ = some (.slice va i vc) := hJ.cell 0 rfl 0 rfl
    have HJ := Lib.hid hJ
    have HO := Lib.hid hO
    have HX := Lib.hid hX
    have H2 := Lib.hid h2
    have HM := Lib.hid hm
    have HLIT := Lib.hid hlit
    have HL2 := Lib.hid hlen2
    have HLI := Lib.hid hli
    clear hJ hO hX h2 hm hlit hlen2 hli he hmL
    gi_wp2
    refine region_any (GroR nodeE 45 w W0.heap.size (fun _ => False) (nodesB w.heap.size g) g L A S mp ((shL L).take i ++ [m]) X W) ?_ ?_
    focus
      gi_region_with ((refine step_append_in (w := W.drew.alloc (.cells #[.int .i64 m.id.t, .int .i64 m.id.s, .int .i64 m.ref.t, .int .i64 m.ref.s, .int .i32 m.rune, .int .i64 m.st] 45)) nodeE (.tmp 10) (.tmp 15) 31 rfl (W0.heap.size + 2) 45 (.agg #[.int .i64 0, .int .i64 0, .int .i64 0, .int .i64 0, .int .i32 0, .int .i64 0]) 48 Tryz.underlying31 info_node rfl (by decide) rfl rfl (by go_simp) HOWN.out HLIT.out HL2.out HB.out ?_; rintro v2 w2 ho2 hg2; have hJ2 := Gro.after HJ.out HO.out HK1.out hg2; rw [HLI.out] at ho2; obtain ⟨va2, vc2, rfl⟩ := owns_sl ho2; have d0 : w2.cell? ⟨w.heap.size, 0, none⟩ = some (.slice va i vc) := hJ2.cell 0 rfl 0 rfl; have g0 := hJ2.frozen 0 rfl 0; clear hJ2))
      all_goals exact ⟨rfl, Gro.appended HJ.out HO.out HX.out H2.out HK1.out hg2 (by rw [HLI.out]) ho2 0 rfl (nodesB_nodup ..) rfl⟩
    rintro a' W' ⟨ho, hG⟩
    gi_wp2
    refine ⟨ho.1, ho.2, ?_⟩
    show Gro _ _ _ _ _ _ _ _ _ _ _ _ _ _
    rw [List.take_add_one, HM.out]
    exact hG
  case done =>
    rintro X W hJ0 hK
    obtain ⟨v, hJ, hO, hX⟩ := hJ0
    rw [List.take_length] at hO
    have HJ := Lib.hid hJ
    have HO := Lib.hid hO
    have HK := Lib.hid hK
    clear hJ hO hX hK
    gi_wp2
    have hC2 := HJ.out.taken (.deferred none)
    have hO3 := owns_keep HO.out (kept_put W W0.heap.size (.deferred none)) fun b hb e => by have := (owns_lt HO.out b hb).1; omega
    have hs0 := HJ.out.size.1
    refine ret_range HK.out (results_tmp rfl _ _ _) ⟨⟨w.heap.size, rfl, Nat.le_refl _, v, hC2.at_ 0 rfl, hO3.1, ?_⟩, hC2.kept⟩
    rcases hO3.2 with h5 | ⟨g', cap, cur, e1, e2, e3⟩
    · exact .inl h5
    · exact .inr ⟨g', cap, cur, e1, by omega, e3⟩
  case stop =>
    rintro c X W h _
    exact h.elim
end Go.Proofs.YtlafodnaifghcaaGreat.Tr
namespace Go.Proofs.YtlafodnaifghcaaGreat.Tr
open Go.RowKit Go.Proofs.YtlafodnaifghcaaGreat.St Go.Shelf
attribute [local go_sem] Oper.semAt_some
theorem SlAt.node {w : World} {v : Value} {L : List Nd} (h : SlAt nodeE w v L) (hn : 0 < L.length) : ∃ g o c, v = .slice (some ⟨g, o, none⟩) L.length c ∧ g < w.heap.size ∧ ∀ (i : Nat) (x : Nd), L[i]? = some x →
    w.cell? ⟨g, o + i * 6, none⟩ = some (.int .i64 x.id.t) ∧ w.cell? ⟨g, o + i * 6 + 1, none⟩ = some (.int .i64 x.id.s) ∧ w.cell? ⟨g, o + i * 6 + 2, none⟩ = some (.int .i64 x.ref.t) ∧ w.cell? ⟨g, o + i * 6 + 3, none⟩ = some (.int .i64 x.ref.s) ∧ w.cell? ⟨g, o + i * 6 + 4, none⟩ = some (.int .i32 x.rune) ∧ w.cell? ⟨g, o + i * 6 + 5, none⟩ = some (.int .i64 x.st) := by
  obtain ⟨g, o, c, rfl, _, _, hg, hc⟩ := h.one hn
  exact ⟨g, o, c, rfl, hg, fun i x hx => ⟨hc i x hx 0 _ rfl, hc i x hx 1 _ rfl, hc i x hx 2 _ rfl, hc i x hx 3 _ rfl, hc i x hx 4 _ rfl, hc i x hx 5 _ rfl⟩⟩
set_option maxRecDepth 100000 in
set_option maxHeartbeats 4000000 in
theorem allp_any {w : World} {L : List Nd} {pl : Nat} {v : Value} (hb : L.length ≤ 1000000) (k : FuncId) (caps : Array Value) (I : Nat → World → Prop) (Z : World → Prop)
    (hrd : ∀ i w, I i w → w.cell? ⟨pl, 0, none⟩ = some v ∧ SlAt nodeE w v L) (hgr : ∀ i w w', I i w → Kept (fun _ => False) w w' → I i w')
    (hy : ∀ i x w, L[i]? = some x → I i w → Calls Tryz.prog k (#[idV x.id, .int .i32 x.rune] ++ caps) w fun e w' => ∃ b, e = .returned (.bool b) ∧ (b = true → I (i + 1) w') ∧ (b = false → Z w'))
    (hen : ∀ args w, Sem.run Tryz.prog (callFunc k args) w = .ok (.enter k args) w) (h : I 0 w) :
    Calls Tryz.prog 52 #[.func (.func k) #[] caps, .pointer (some ⟨pl, 0, none⟩)] w fun e w' => e = .returned (.tuple #[]) ∧ (I L.length w' ∨ Z w') := by
  obtain ⟨x0, hs0⟩ := hrd 0 w h
  obtain ⟨a, c, rfl, _, _⟩ := hs0.sl
  have RD := Lib.hid hrd
  have GR := Lib.hid hgr
  have HY := Lib.hid hy
  have H0 := Lib.hid h
  clear hrd hgr hy hs0 h
  go_enter Tryz.func52, Tryz.ntmps52
  go_wp2_with fail
  go_loopw [7] (fun iv wr => ∃ j : Nat, iv = .int .i64 j ∧ j ≤ L.length ∧ I j wr) (fun iv _ => L.length - (intOf iv).toNat)
  case atStart => exact ⟨0, rfl, Nat.zero_le _, H0.out⟩
  case round =>
    obtain ⟨j, rfl, hj, hI⟩ := hrel
    have hj0 : (0 : Int) ≤ j := by omega
    by_cases hlt : j < L.length
    case neg =>
      have hnl : ¬ (j : Int) < L.length := by omega
      go_wp2_with fail
      go_end0
      exact ⟨rfl, .inl (by rw [show j = L.length by omega] at hI; exact hI)⟩
    case pos =>
      have hltI : (j : Int) < L.length := by omega
      obtain ⟨r, hr⟩ := get_of_lt hlt
      obtain ⟨_, hs1⟩ := RD.out _ _ hI
      obtain ⟨g, o, c', hv, hglt, hc⟩ := SlAt.node hs1 (by omega)
      cases hv
      obtain ⟨c0, c1, c2, c3, c4, c5⟩ := hc j r hr
      have hcall := HY.out j r (wr.alloc (.cells #[.int .i64 r.id.t, .int .i64 r.id.s, .int .i64 r.ref.t, .int .i64 r.ref.s, .int .i32 r.rune, .int .i64 r.st] 45)) hr (GR.out _ _ _ hI ((Kept.refl _ _).alloc _))
      unfold idV at hcall
      have R := Lib.hid hr
      clear hr hc hs1 hI
      go_wp2_with fail
      refine hcall.mono ?_
      rintro e w2 ⟨bb, rfl, ht, hf⟩
      cases bb with
      | true =>
        have T := Lib.hid (ht rfl)
        clear ht hf
        go_wp2_with fail
        go_roundw
        case rel => exact ⟨j + 1, by go_num, by omega, T.out⟩
        case measure => simp [intOf]; omega
      | false =>
        have T := Lib.hid (hf rfl)
        clear ht hf
        go_wp2_with fail
        refine bodyPost_ret (results_none rfl _ _ _) rfl ?_
        exact ⟨rfl, .inr T.out⟩
def nodeEnc (L : List Nd) (i : Nat) : Array Value := #[.agg #[.int .i64 (nth L i).id.t, .int .i64 (nth L i).id.s], .int .i32 (nth L i).rune]
set_option maxRecDepth 100000 in
set_option maxHeartbeats 8000000 in
theorem all2_iter {L : List Nd} {pl : Nat} {v : Value} (hb : L.length ≤ 1000000) :
    IterOk Fence.wide 5 Tryz.prog 52 #[.pointer (some ⟨pl, 0, none⟩)] L.length (nodeEnc L) (fun w => w.cell? ⟨pl, 0, none⟩ = some v ∧ SlAt nodeE w v L) := by
  intro yl I Z X0 w hrd hgr hgz hy h0
  obtain ⟨x0, hs0⟩ := hrd _ _ w h0
  obtain ⟨a, c, rfl, _, _⟩ := hs0.sl
  have RD := Lib.hid hrd
  have GR := Lib.hid hgr
  have HY := Lib.hid hy
  have H0 := Lib.hid h0
  clear hrd hgr hgz hy hs0 h0
  refine callsIn_of_wp Tryz.func52 rfl trivial ?_ rfl
  simp only [Tryz.ntmps52, List.size_toArray, List.length_cons, List.length_nil, Nat.reduceAdd, Nat.reduceSub, Array.replicate_succ, Array.replicate_zero, List.push_toArray, List.append_toArray, List.nil_append, List.cons_append]
  gi_wp2
  gi_loopw [7] (fun iv wr => ∃ j : Nat, iv = .int .i64 j ∧ j ≤ L.length ∧ ∃ X, I j X wr) (fun iv _ => L.length - (intOf iv).toNat)
  case atStart => exact ⟨0, rfl, Nat.zero_le _, _, H0.out⟩
  case round =>
    obtain ⟨j, rfl, hj, X, hI⟩ := hrel
    have hj0 : (0 : Int) ≤ j := by omega
    by_cases hlt : j < L.length
    case neg =>
      have hnl : ¬ (j : Int) < L.length := by omega
      gi_wp2
      go_end0
      exact ⟨⟨_, rfl⟩, .inl ⟨X, by rw [show j = L.length by omega] at hI; exact hI⟩⟩
    case pos =>
      have hltI : (j : Int) < L.length := by omega
      obtain ⟨r, hr⟩ := get_of_lt hlt
      obtain ⟨_, hs1⟩ := RD.out _ _ _ hI
      obtain ⟨g, o, c', hv, hglt, hc⟩ := SlAt.node hs1 (by omega)
      cases hv
      obtain ⟨c0, c1, c2, c3, c4, c5⟩ := hc j r hr
      have hcall := HY.out j _ (wr.alloc (.cells #[.int .i64 r.id.t, .int .i64 r.id.s, .int .i64 r.ref.t, .int .i64 r.ref.s, .int .i32 r.rune, .int .i64 r.st] 45)) hlt (GR.out _ _ _ _ hI ((Kept.refl _ _).alloc _))
      unfold nodeEnc at hcall
      rw [nth_some hr] at hcall
      obtain ⟨fn, tmps, assign, body, hy, hR⟩ := hcall
      have HRR := Lib.hid hR
      clear hr hc hs1 hI hR
      gi_wp2
      refine HRR.out.mono ?_
      rintro e w2 ⟨bb, rfl, _, _, ht, hf⟩
      cases bb with
      | true =>
        have T := Lib.hid (ht rfl)
        clear ht hf hy c0 c1 c2 c3 c4 c5
        gi_wp2
        go_roundw
        case rel => exact ⟨j + 1, by go_num, by omega, _, T.out⟩
        case measure => simp [intOf]; omega
      | false =>
        have T := Lib.hid (hf rfl)
        clear ht hf hy c0 c1 c2 c3 c4 c5
        gi_wp2
        refine bodyPost_ret (results_none rfl _ _ _) rfl ?_
        exact ⟨⟨_, rfl⟩, .inr ⟨_, T.out⟩⟩
end Go.Proofs.YtlafodnaifghcaaGreat.Tr
namespace Go.Proofs.YtlafodnaifghcaaGreat.Tr
open Go.RowKit Go.Sort Go.Proofs.YtlafodnaifghcaaGreat.St
set_option maxRecDepth 100000 in
theorem risID_any (i : ID) (w : World) : Calls Tryz.prog 68 #[idV i] w fun e w' => e = .returned (.bool (isB i)) ∧ Grew w w' := by
  obtain ⟨t, s⟩ := i
  show Calls _ _ #[.agg #[.int .i64 t, .int .i64 s]] _ _
  by_cases h1 : 1 ≤ t
  · by_cases h2 : t ≤ 2147483647
    · by_cases h3 : 1 ≤ s
      · by_cases h4 : s ≤ 16
        · have e : isB ⟨t, s⟩ = true := by simp [isB, ID.Is, h1, h2, h3, h4]
          rw [e]
          go_enter Tryz.func68, Tryz.ntmps68
          go_wp2
          go_ret
          exact ⟨rfl, (Grew.refl w).alloc _⟩
        · have e : isB ⟨t, s⟩ = false := by simp [isB, ID.Is, h4]
          rw [e]
          go_enter Tryz.func68, Tryz.ntmps68
          go_wp2
          go_ret
          exact ⟨rfl, (Grew.refl w).alloc _⟩
      · have e : isB ⟨t, s⟩ = false := by simp [isB, ID.Is, h3]
        rw [e]
        go_enter Tryz.func68, Tryz.ntmps68
        go_wp2
        go_ret
        exact ⟨rfl, (Grew.refl w).alloc _⟩
    · have e : isB ⟨t, s⟩ = false := by simp [isB, ID.Is, h2]
      rw [e]
      go_enter Tryz.func68, Tryz.ntmps68
      go_wp2
      go_ret
      exact ⟨rfl, (Grew.refl w).alloc _⟩
  · have e : isB ⟨t, s⟩ = false := by simp [isB, ID.Is, h1]
    rw [e]
    go_enter Tryz.func68, Tryz.ntmps68
    go_wp2
    go_ret
    exact ⟨rfl, (Grew.refl w).alloc _⟩
theorem lower_any (a b : ID) (w : World) : Calls Tryz.prog 71 #[idV a, idV b] w fun e w' => e = .returned (.bool (decide (a.lt b))) ∧ Grew w w' := by
  obtain ⟨at_, as_⟩ := a
  obtain ⟨bt, bs⟩ := b
  show Calls _ _ #[.agg #[.int .i64 at_, .int .i64 as_], .agg #[.int .i64 bt, .int .i64 bs]] _ _
  by_cases h1 : at_ < bt
  · rw [decide_eq_true (show (⟨at_, as_⟩ : ID).lt ⟨bt, bs⟩ from .inl h1)]
    go_enter Tryz.func71, Tryz.ntmps71
    go_wp2
    go_ret
    exact ⟨rfl, ((Grew.refl w).alloc _).alloc _⟩
  · by_cases h2 : at_ = bt
    · subst h2
      by_cases h3 : as_ < bs
      · rw [decide_eq_true (show (⟨at_, as_⟩ : ID).lt ⟨at_, bs⟩ from .inr ⟨rfl, h3⟩)]
        go_enter Tryz.func71, Tryz.ntmps71
        go_wp2
        go_ret
        exact ⟨rfl, ((Grew.refl w).alloc _).alloc _⟩
      · rw [decide_eq_false (show ¬ (⟨at_, as_⟩ : ID).lt ⟨at_, bs⟩ from fun h => by rcases h with h | h; exact h1 h; exact h3 h.2)]
        go_enter Tryz.func71, Tryz.ntmps71
        go_wp2
        go_ret
        exact ⟨rfl, ((Grew.refl w).alloc _).alloc _⟩
    · rw [decide_eq_false (show ¬ (⟨at_, as_⟩ : ID).lt ⟨bt, bs⟩ from fun h => by rcases h with h | h; exact h1 h; exact h2 h.1)]
      have q2 : (at_ == bt) = false := by simpa using h2
      go_enter Tryz.func71, Tryz.ntmps71
      go_wp2
      go_ret
      exact ⟨rfl, ((Grew.refl w).alloc _).alloc _⟩
/-- where an element stands -/
def atR (L : List Nd) (i : ID) : Int := match L.findIdx? (fun n => decide (n.id = i)) with
  | some k => k
  | none => -1
theorem atR_at {L : List Nd} {i : ID} {k : Nat} {x : Nd} (hx : L[k]? = some x) (he : x.id = i) (hno : ∀ m ∈ L.take k, m.id ≠ i) : atR L i = k := by
  have hk := (List.getElem?_eq_some_iff.1 hx).1
  have h1 : L.findIdx? (fun n => decide (n.id = i)) = some k := by
    rw [List.findIdx?_eq_some_iff_getElem]
    refine ⟨hk, by rw [(List.getElem?_eq_some_iff.1 hx).2]; simp [he], fun j hj => ?_⟩
    have h2 := hno L[j] (by rw [List.mem_take_iff_getElem]; exact ⟨j, by omega, rfl⟩)
    simpa using h2
  unfold atR
  rw [h1]
theorem atR_no {L : List Nd} {i : ID} (hno : ∀ m ∈ L, m.id ≠ i) : atR L i = -1 := by
  have h1 : L.findIdx? (fun n => decide (n.id = i)) = none := by
    rw [List.findIdx?_eq_none_iff]
    intro x hx
    simpa using hno x hx
  unfold atR
  rw [h1]
theorem atR_neg (L : List Nd) (i : ID) : atR L i < 0 ↔ i ∉ ids L := by
  unfold atR
  cases h : L.findIdx? (fun n => decide (n.id = i)) with
  | some k =>
    have h1 := List.findIdx?_eq_some_iff_getElem.1 h
    obtain ⟨hk, h2, _⟩ := h1
    constructor
    · intro h9; simp at h9; omega
    · intro h9; exact absurd (List.mem_map.2 ⟨L[k], List.getElem_mem hk, by simpa using h2⟩) h9
  | none =>
    rw [List.findIdx?_eq_none_iff] at h
    constructor
    · intro _ hm
      obtain ⟨x, hx, e⟩ := List.mem_map.1 hm
      have := h x hx
      simp [e] at this
    · intro _; decide
theorem id_eqb (a b : ID) : decide (a = b) = (a.t == b.t && a.s == b.s) := by
  rw [Bool.eq_iff_iff]
  simp [ID.ext_iff]
theorem eq_id (x y : ID) (w : World) : (binOp .eql 37 (.agg #[.int .i64 x.t, .int .i64 x.s]) (.agg #[.int .i64 y.t, .int .i64 y.s])).run Tryz.prog w = .ok (.bool (decide (x = y))) w := by
  rw [id_eqb]
  cases h1 : x.t == y.t
  · go_simp
  cases h2 : x.s == y.s
  · go_simp
  · go_simp
theorem ne_id (x y : ID) (w : World) : (binOp .neq 37 (.agg #[.int .i64 x.t, .int .i64 x.s]) (.agg #[.int .i64 y.t, .int .i64 y.s])).run Tryz.prog w = .ok (.bool (!decide (x = y))) w := by
  rw [id_eqb]
  cases h1 : x.t == y.t
  · go_simp
  cases h2 : x.s == y.s
  · go_simp
  · go_simp
set_option maxRecDepth 100000 in
set_option maxHeartbeats 4000000 in
theorem rat_any {w : World} {v : Value} {L : List Nd} (h : SlAt nodeE w v L) (hlen : L.length ≤ 1000000) (i : ID) :
    Calls Tryz.prog 72 #[.agg #[v], idV i] w fun e w' => e = .returned (.int .i64 (atR L i)) ∧ Kept (fun _ => False) w w' := by
  obtain ⟨it, is⟩ := i
  show Calls _ _ #[_, .agg #[.int .i64 it, .int .i64 is]] _ _
  obtain ⟨a, c, rfl, _, _⟩ := h.sl
  have hk0 : Kept (fun _ => False) w ((w.alloc (.cells #[.slice a L.length c] 33)).alloc (.cells #[.int .i64 it, .int .i64 is] 37)) := ((Kept.refl _ _).alloc _).alloc _
  have b0 := (Blk.new w 33 #[.slice a L.length c]).alloc (.cells #[.int .i64 it, .int .i64 is] 37)
  have b1 := Blk.new (w.alloc (.cells #[.slice a L.length c] 33)) 37 #[.int .i64 it, .int .i64 is]
  rw [World.size_alloc] at b1
  have HL := Lib.hid (h.kept hk0)
  have K0 := Lib.hid hk0
  have c0 := b0.cell' (i := 0) (v := .slice a L.length c) rfl
  have c1 := b1.cell' (i := 0) (v := .int .i64 it) rfl
  have c2 := b1.cell' (i := 1) (v := .int .i64 is) rfl
  clear h b0 b1 hk0
  go_enter Tryz.func72, Tryz.ntmps72
  go_upto_region 1 with fail
  obtain ⟨W0, hW0⟩ : ∃ W0, ((w.alloc (.cells #[.slice a L.length c] 33)).alloc (.cells #[.int .i64 it, .int .i64 is] 37)) = W0 := ⟨_, rfl⟩
  rw [hW0] at HL K0 c0 c1 c2 ⊢
  clear hW0
  go_wp2_with fail
  go_loopw [5] (fun kv wr => ∃ n q : Nat, kv = .int .i64 n ∧ n ≤ L.length ∧ (∀ m ∈ L.take n, m.id ≠ ⟨it, is⟩) ∧ wr = W0.drewN q) (fun kv _ => L.length - (intOf kv).toNat)
  case atStart => exact ⟨0, 0, rfl, Nat.zero_le _, fun m hm => by simp at hm, rfl⟩
  case round =>
    obtain ⟨n, q, rfl, hn, hno, rfl⟩ := hrel
    have NO := Lib.hid hno
    clear hno
    have hn0 : (0 : Int) ≤ n := by omega
    by_cases hlt : n < L.length
    case neg =>
      have hnl : ¬ (n : Int) < L.length := by omega
      have AN := Lib.hid (atR_no (L := L) (i := ⟨it, is⟩) (by have h9 := NO.out; rw [List.take_of_length_le (by omega)] at h9; exact h9))
      go_wp2_with fail
      go_ret
      exact ⟨by rw [AN.out]; rfl, K0.out.drewN _⟩
    case pos =>
      have hnl : (n : Int) < L.length := by omega
      obtain ⟨x, hx⟩ := get_of_lt hlt
      obtain ⟨g, o, c', e1, _, h1⟩ := SlAt.node HL.out (by omega)
      cases e1
      obtain ⟨r0, r1, r2, r3, r4, r5⟩ := h1 n x hx
      have heq := eq_id x.id ⟨it, is⟩
      have e1 : IntKind.i64.wrap ((n : Int) + 1) = (n : Int) + 1 := IntWalk.i64_in _ (by omega)
      have HX := Lib.hid hx
      simp only at heq
      clear hx h1
      by_cases he : x.id = ⟨it, is⟩
      · rw [decide_eq_true he] at heq
        have AN := Lib.hid (atR_at HX.out he NO.out)
        clear he
        go_wp2_with fail
        go_quiet (fail)
        go_wp2_with fail
        go_ret
        exact ⟨by rw [AN.out]; rfl, (K0.out.drewN _).drewN _⟩
      · rw [decide_eq_false he] at heq
        have HE := Lib.hid he
        clear he
        go_wp2_with fail
        go_quiet (fail)
        go_wp2_with fail
        go_roundw
        case rel =>
          refine ⟨n + 1, _, by go_num, by omega, fun m hm => ?_, rfl⟩
          rw [List.take_add_one, HX.out] at hm
          rcases List.mem_append.1 hm with hm | hm
          · exact NO.out m hm
          · have h9 : m = x := by simpa using hm
            rw [h9]
            exact HE.out
        case measure => simp [intOf]; omega
end Go.Proofs.YtlafodnaifghcaaGreat.Tr
