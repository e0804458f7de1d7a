/- Len, by a range over shown. All, by a range over shown. All's iterator: for a function that is handed to it, and in a range over a function. slices.Equal over rows of nodes. slices.Clone of identifiers and of runs; slices.IndexFunc of identifiers that are none. -/
import Derived.Test.YtlafodnaifghcaaT13
import Derived.Test.YtlafodnaifghcaaT8
import Derived.Test.YtlafodnaifghcaaT5
import Derived.OwnWalk
import Derived.WalkSpells
namespace Go.Proofs.Ytlafodnaifghcaa.Tr
open Go.RowKit Go.Proofs.Ytlafodnaifghcaa.St Go.Shelf
attribute [local go_sem] Oper.semAt_some
theorem shown_any (g : Nat) (w : World) : Calls Try.prog 31 #[.pointer (some ⟨g, 0, none⟩)] w fun e w' =>
    e = .returned (.func (.func 55) #[] #[.pointer (some ⟨w.heap.size, 0, none⟩)]) ∧ w' = w.alloc (.cells #[.pointer (some ⟨g, 0, none⟩)] 25) := by
  go_enter Try.func31, Try.ntmps31
  go_wp2
  go_ret
  exact ⟨rfl, rfl⟩
theorem shL_le (L : List Nd) : (shL L).length ≤ L.length := List.length_filter_le _ _
def lenB (z g : Nat) (k : Int) : List Box := [(z, 3, #[.int .i64 k]), (z + 1, 25, #[.pointer (some ⟨g, 0, none⟩)])]
theorem lenB_nodup (z g : Nat) (k : Int) : ((lenB z g k).map (·.1)).Nodup := by simp [lenB]
def lenJ (w : World) (B g : Nat) (L : List Nd) (A : ID → Nat) (S : ID → Rw) (mp : Option Nat) (i : Nat) (X : Nat → Prop) (W : World) : Prop := CJ w B (fun _ => False) (lenB w.heap.size g i) g L A S mp X W
set_option maxHeartbeats 8000000 in
theorem len_any {w : World} {g : Nat} {L : List Nd} {A : ID → Nat} {S : ID → Rw} {mp : Option Nat} (h : TAt w g L A S mp) (hdoc : Doc L) (hlen : L.length ≤ 900000) :
    Calls Try.prog 18 #[.pointer (some ⟨g, 0, none⟩)] w fun e w' => e = .returned (.int .i64 (shL L).length) ∧ Kept (fun _ => False) w w' := by
  refine (callsIn_wide (n := 6)).1 ?_
  refine callsIn_of_wp_marks Try.func18 rfl trivial ?_ rfl
  simp only [Try.ntmps18, List.size_toArray, List.length_cons, List.length_nil, Nat.reduceAdd, Nat.reduceSub, Array.replicate_succ, Array.replicate_zero, List.push_toArray, List.append_toArray, List.nil_append, List.cons_append]
  gi_wp2_with (refine ⟨trivial, ?_⟩; gi_at_call 31; refine (callsIn_wide.2 (shown_any g _)).mono ?_; rintro e w' ⟨rfl, rfl⟩)
  obtain ⟨W0, hW0⟩ : ∃ W0, ((w.alloc (.cells #[.int .i64 0] 3)).alloc (.cells #[.pointer (some ⟨g, 0, none⟩)] 25)) = W0 := ⟨_, rfl⟩
  have hC : CJ w W0.heap.size (fun _ => False) (lenB w.heap.size g 0) g L A S mp (fun _ => False) W0 := by
    rw [← hW0]
    have h9 := ((CJ.start (M := fun _ => False) h).boxed #[.int .i64 0] 3).boxed #[.pointer (some ⟨g, 0, none⟩)] 25
    simp only [World.size_alloc] at h9 ⊢
    exact h9
  rw [hW0]
  clear hW0
  refine wpIn_iter rfl (by decide) (gf := 55) (lb := #[.pointer (some ⟨w.heap.size + 1, 0, none⟩)]) rfl trivial (enters_of Try.func55 (by kernel_rfl) rfl) (shown1_iter (A := A) (S := S) (g := g) (mp := mp) hdoc hlen) (fun _ _ => rfl) W0.heap.size rfl (lenJ w W0.heap.size g L A S mp) (fun _ _ _ => False) ?hrd ?hgr ?hgx ?hob ?hox ?h0 ?round ?done ?stop
  case hrd => intro i X W hJ; exact ⟨hJ.cell 1 rfl 0 rfl, hJ.tree⟩
  case hgr => intro i X W W' hJ hk; exact CJ.grow hJ hk
  case hgx => intro c X W W' h _; exact h
  case hob => intro i X W o' hJ; exact CJ.put hJ (Nat.le_succ _) o'
  case hox => intro c X W o' h; exact h
  case h0 => intro o1 o2; exact (hC.alloc o1).alloc o2
  case round =>
    intro i W K hi hK
    have hle := shL_le L
    have hs2 : (i : Int) ≤ 900000 := by omega
    unfold shEnc
    generalize nth (shL L) i = m
    clear hle
    gi_wp2
    rintro X W h2 hJ
    have hJ : CJ w W0.heap.size (fun _ => False) (lenB w.heap.size g i) g L A S mp X W := hJ
    have HJ := Lib.hid hJ
    have H2 := Lib.hid h2
    have c0 : W.cell? ⟨w.heap.size, 0, none⟩ = some (.int .i64 i) := hJ.cell 0 rfl 0 rfl
    have f0 := hJ.frozen 0 rfl 0
    clear hJ h2
    gi_wp2
    have ho := HJ.out.off H2.out (Y := (· = w.heap.size)) (kept_cell W w.heap.size (.int .i64 ((i : Int) + 1))) (fun b hb => by rw [hb]; exact (HJ.out.box _ (.head _)).1.2)
    refine ⟨ho.1, ho.2, ?_⟩
    show CJ _ _ _ (lenB w.heap.size g ((i + 1 : Nat) : Int)) _ _ _ _ _ _ _
    rw [show ((i + 1 : Nat) : Int) = (i : Int) + 1 by omega]
    exact HJ.out.set 0 (.int .i64 ((i : Int) + 1)) rfl (lenB_nodup ..)
  case done =>
    rintro X W hJ hK
    have hJ : CJ w W0.heap.size (fun _ => False) (lenB w.heap.size g (shL L).length) g L A S mp X W := hJ
    have HJ := Lib.hid hJ
    have HK := Lib.hid hK
    have c0 : W.cell? ⟨w.heap.size, 0, none⟩ = some (.int .i64 (shL L).length) := hJ.cell 0 rfl 0 rfl
    clear hJ hK
    gi_wp2
    exact ret_range HK.out (results_tmp rfl _ _ _) ⟨rfl, (HJ.out.taken (.deferred none)).kept⟩
  case stop =>
    rintro c X W h _
    exact h.elim
end Go.Proofs.Ytlafodnaifghcaa.Tr
namespace Go.Proofs.Ytlafodnaifghcaa.Tr
open Go.RowKit Go.Proofs.Ytlafodnaifghcaa.St Go.Shelf
attribute [local go_sem] Oper.semAt_some
def allJ (w : World) (B g : Nat) (L : List Nd) (A : ID → Nat) (S : ID → Rw) (mp : Option Nat) (i : Nat) (X : Nat → Prop) (W : World) : Prop :=
  Gro nodeE 59 w B (fun _ => False) (nodesB w.heap.size g) g L A S mp ((shL L).take i) X W
set_option maxRecDepth 100000 in
set_option maxHeartbeats 8000000 in
theorem allf_any {w : World} {g : Nat} {L : List Nd} {A : ID → Nat} {S : ID → Rw} {mp : Option Nat} (h : TAt w g L A S mp) (hdoc : Doc L) (hlen : L.length ≤ 900000) :
    Calls Try.prog 44 #[.pointer (some ⟨g, 0, none⟩)] w fun e w' => (∃ b v, e = .returned (.func (.func 70) #[] #[.pointer (some ⟨b, 0, none⟩)]) ∧ w.heap.size ≤ b ∧ Blk w' b 42 #[v] ∧ w'.ownsRow w.heap.size 59 6 v (shL L).length (nodeE.flat (shL L))) ∧ Kept (fun _ => False) w w' := by
  refine (callsIn_wide (n := 6)).1 ?_
  refine callsIn_of_wp_marks Try.func44 rfl trivial ?_ rfl
  simp only [Try.ntmps44, List.size_toArray, List.length_cons, List.length_nil, Nat.reduceAdd, Nat.reduceSub, Array.replicate_succ, Array.replicate_zero, List.push_toArray, List.append_toArray, List.nil_append, List.cons_append]
  gi_wp2_with (refine ⟨trivial, ?_⟩; gi_at_call 31; refine (callsIn_wide.2 (shown_any g _)).mono ?_; rintro e w' ⟨rfl, rfl⟩)
  obtain ⟨W0, hW0⟩ : ∃ W0, ((w.alloc (.cells #[.slice none 0 0] 42)).alloc (.cells #[.pointer (some ⟨g, 0, none⟩)] 25)) = W0 := ⟨_, rfl⟩
  have hC : CJ w W0.heap.size (fun _ => False) (nodesB w.heap.size g (.slice none 0 0)) g L A S mp (fun _ => False) W0 := by
    rw [← hW0]
    have h9 := (((CJ.start (M := fun _ => False) h).boxed #[.slice none 0 0] 42)).boxed #[.pointer (some ⟨g, 0, none⟩)] 25
    simp only [World.size_alloc] at h9 ⊢
    exact h9
  rw [hW0]
  clear hW0
  refine wpIn_iter rfl (by decide) (gf := 55) (lb := #[.pointer (some ⟨w.heap.size + 1, 0, none⟩)]) rfl trivial (enters_of Try.func55 (by kernel_rfl) rfl) (shown1_iter (A := A) (S := S) (g := g) (mp := mp) hdoc hlen) (fun _ _ => rfl) W0.heap.size rfl (allJ w W0.heap.size g L A S mp) (fun _ _ _ => False) ?hrd ?hgr ?hgx ?hob ?hox ?h0 ?round ?done ?stop
  case hrd => rintro i X W ⟨v, hJ, _⟩; exact ⟨hJ.cell 1 rfl 0 rfl, hJ.tree⟩
  case hgr => intro i X W W' hJ hk; exact Gro.grow hJ hk
  case hgx => intro c X W W' h _; exact h
  case hob => intro i X W o' hJ; exact Gro.put hJ o'
  case hox => intro c X W o' hJ; exact hJ
  case h0 =>
    intro o1 o2
    have h9 : Gro nodeE 59 w W0.heap.size (fun _ => False) (nodesB w.heap.size g) g L A S mp [] (fun _ => False) W0 := ⟨_, hC, World.ownsRow_nil .., fun b hb => by cases hb⟩
    exact (h9.alloc o1).alloc o2
  case round =>
    intro i W K hi hK
    have hm := nth_lt hi
    unfold shEnc
    generalize nth (shL L) i = m at hm ⊢
    gi_wp2
    rintro X W h2 ⟨v, hJ, hO, hX⟩
    have hmL : m ∈ L := (List.mem_filter.1 (List.mem_of_getElem? hm)).1
    have he := hJ.tree.elt m hmL
    have e0 : W.cell? ⟨A m.id, 0, none⟩ = some (.int .i64 m.id.t) := he.cell' rfl
    have e1 : W.cell? ⟨A m.id, 1, none⟩ = some (.int .i64 m.id.s) := he.cell' rfl
    have e2 : W.cell? ⟨A m.id, 2, none⟩ = some (.int .i64 m.ref.t) := he.cell' rfl
    have e3 : W.cell? ⟨A m.id, 3, none⟩ = some (.int .i64 m.ref.s) := he.cell' rfl
    have e4 : W.cell? ⟨A m.id, 4, none⟩ = some (.int .i32 m.rune) := he.cell' rfl
    have e5 : W.cell? ⟨A m.id, 5, none⟩ = some (.int .i64 m.st) := he.cell' rfl
    obtain ⟨va, vc, rfl⟩ := owns_sl hO
    have f0 := hJ.frozen 0 rfl 0
    have hlen2 : ((shL L).take i).length ≤ 1000000 := by have := List.length_take_le i (shL L); have := shL_le L; omega
    have hli : ((shL L).take i).length = i := by rw [List.length_take]; omega
    have n1 : ¬ A m.id = w.heap.size := by have := hJ.low (A m.id) (.inr (.inr (.inl ⟨m.id, List.mem_map.2 ⟨m, hmL, rfl⟩, rfl⟩))); omega
    have hzl : w.heap.size < W.heap.size := (hJ.at_ 0 rfl).lt
    have hlit : SlAt nodeE (W.drew.alloc (.cells #[.int .i64 m.id.t, .int .i64 m.id.s, .int .i64 m.ref.t, .int .i64 m.ref.s, .int .i32 m.rune, .int .i64 m.st] 59)) (.slice (some ⟨W.heap.size, 0, none⟩) 1 1) [m] := SlAt.lit [m] _ (by simp [Enc.flat, nodeE, ndC]) (by unfold maxLen; simp)
    have hk1 : Kept (fun _ => False) W (W.drew.alloc (.cells #[.int .i64 m.id.t, .int .i64 m.id.s, .int .i64 m.ref.t, .int .i64 m.ref.s, .int .i32 m.rune, .int .i64 m.st] 59)) := ((Kept.refl _ _).drew).alloc _
    have hown := owns_keep hO hk1 (fun _ _ h => h)
    rw [show Value.slice va ((shL L).take i).length vc = .slice va i vc by rw [hli]] at hown hO hJ hX
    have HOWN := Lib.hid hown
    have HK1 := Lib.hid hk1
    have HB := Lib.hid (show W0.heap.size + 2 ≤ (W.drew.alloc (.cells #[.int .i64 m.id.t, .int .i64 m.id.s, .int .i64 m.ref.t, .int .i64 m.ref.s, .int .i32 m.rune, .int .i64 m.st] 59)).heap.size by simp; omega)
    clear hown hk1
    have c0 : W.cell? ⟨w.heap.size, 0, none⟩ = some (.slice va i vc) := hJ.cell 0 rfl 0 rfl
    have HJ := Lib.hid hJ
    have HO := Lib.hid hO
    have HX := Lib.hid hX
    have H2 := Lib.hid h2
    have HM := Lib.hid hm
    have HLIT := Lib.hid hlit
    have HL2 := Lib.hid hlen2
    have HLI := Lib.hid hli
    clear hJ hO hX h2 hm hlit hlen2 hli he hmL
    gi_wp2
    refine region_any (GroR nodeE 59 w W0.heap.size (fun _ => False) (nodesB w.heap.size g) g L A S mp ((shL L).take i ++ [m]) X W) ?_ ?_
    focus
      gi_region_with ((refine step_append_in (w := W.drew.alloc (.cells #[.int .i64 m.id.t, .int .i64 m.id.s, .int .i64 m.ref.t, .int .i64 m.ref.s, .int .i32 m.rune, .int .i64 m.st] 59)) nodeE (.tmp 10) (.tmp 15) 42 rfl (W0.heap.size + 2) 59 (.agg #[.int .i64 0, .int .i64 0, .int .i64 0, .int .i64 0, .int .i32 0, .int .i64 0]) 48 Try.underlying42 info_node rfl (by decide) rfl rfl (by go_simp) HOWN.out HLIT.out HL2.out HB.out ?_; rintro v2 w2 ho2 hg2; have hJ2 := Gro.after HJ.out HO.out HK1.out hg2; rw [HLI.out] at ho2; obtain ⟨va2, vc2, rfl⟩ := owns_sl ho2; have d0 : w2.cell? ⟨w.heap.size, 0, none⟩ = some (.slice va i vc) := hJ2.cell 0 rfl 0 rfl; have g0 := hJ2.frozen 0 rfl 0; clear hJ2))
      all_goals exact ⟨rfl, Gro.appended HJ.out HO.out HX.out H2.out HK1.out hg2 (by rw [HLI.out]) ho2 0 rfl (nodesB_nodup ..) rfl⟩
    rintro a' W' ⟨ho, hG⟩
    gi_wp2
    refine ⟨ho.1, ho.2, ?_⟩
    show Gro _ _ _ _ _ _ _ _ _ _ _ _ _ _
    rw [List.take_add_one, HM.out]
    exact hG
  case done =>
    rintro X W hJ0 hK
    obtain ⟨v, hJ, hO, hX⟩ := hJ0
    rw [List.take_length] at hO
    have HJ := Lib.hid hJ
    have HO := Lib.hid hO
    have HK := Lib.hid hK
    clear hJ hO hX hK
    gi_wp2
    have hC2 := HJ.out.taken (.deferred none)
    have hO3 := owns_keep HO.out (kept_put W W0.heap.size (.deferred none)) fun b hb e => by have := (owns_lt HO.out b hb).1; omega
    have hs0 := HJ.out.size.1
    refine ret_range HK.out (results_tmp rfl _ _ _) ⟨⟨w.heap.size, rfl, Nat.le_refl _, v, hC2.at_ 0 rfl, hO3.1, ?_⟩, hC2.kept⟩
    rcases hO3.2 with h5 | ⟨g', cap, cur, e1, e2, e3⟩
    · exact .inl h5
    · exact .inr ⟨g', cap, cur, e1, by omega, e3⟩
  case stop =>
    rintro c X W h _
    exact h.elim
end Go.Proofs.Ytlafodnaifghcaa.Tr
namespace Go.Proofs.Ytlafodnaifghcaa.Tr
open Go.RowKit Go.Proofs.Ytlafodnaifghcaa.St Go.Shelf
attribute [local go_sem] Oper.semAt_some
theorem SlAt.node {w : World} {v : Value} {L : List Nd} (h : SlAt nodeE w v L) (hn : 0 < L.length) : ∃ g o c, v = .slice (some ⟨g, o, none⟩) L.length c ∧ g < w.heap.size ∧ ∀ (i : Nat) (x : Nd), L[i]? = some x →
    w.cell? ⟨g, o + i * 6, none⟩ = some (.int .i64 x.id.t) ∧ w.cell? ⟨g, o + i * 6 + 1, none⟩ = some (.int .i64 x.id.s) ∧ w.cell? ⟨g, o + i * 6 + 2, none⟩ = some (.int .i64 x.ref.t) ∧ w.cell? ⟨g, o + i * 6 + 3, none⟩ = some (.int .i64 x.ref.s) ∧ w.cell? ⟨g, o + i * 6 + 4, none⟩ = some (.int .i32 x.rune) ∧ w.cell? ⟨g, o + i * 6 + 5, none⟩ = some (.int .i64 x.st) := by
  obtain ⟨g, o, c, rfl, _, _, hg, hc⟩ := h.one hn
  exact ⟨g, o, c, rfl, hg, fun i x hx => ⟨hc i x hx 0 _ rfl, hc i x hx 1 _ rfl, hc i x hx 2 _ rfl, hc i x hx 3 _ rfl, hc i x hx 4 _ rfl, hc i x hx 5 _ rfl⟩⟩
set_option maxRecDepth 100000 in
set_option maxHeartbeats 4000000 in
theorem allp_any {w : World} {L : List Nd} {pl : Nat} {v : Value} (hb : L.length ≤ 1000000) (k : FuncId) (caps : Array Value) (I : Nat → World → Prop) (Z : World → Prop)
    (hrd : ∀ i w, I i w → w.cell? ⟨pl, 0, none⟩ = some v ∧ SlAt nodeE w v L) (hgr : ∀ i w w', I i w → Kept (fun _ => False) w w' → I i w')
    (hy : ∀ i x w, L[i]? = some x → I i w → Calls Try.prog k (#[idV x.id, .int .i32 x.rune] ++ caps) w fun e w' => ∃ b, e = .returned (.bool b) ∧ (b = true → I (i + 1) w') ∧ (b = false → Z w'))
    (hen : ∀ args w, Sem.run Try.prog (callFunc k args) w = .ok (.enter k args) w) (h : I 0 w) :
    Calls Try.prog 70 #[.func (.func k) #[] caps, .pointer (some ⟨pl, 0, none⟩)] w fun e w' => e = .returned (.tuple #[]) ∧ (I L.length w' ∨ Z w') := by
  obtain ⟨x0, hs0⟩ := hrd 0 w h
  obtain ⟨a, c, rfl, _, _⟩ := hs0.sl
  have RD := Lib.hid hrd
  have GR := Lib.hid hgr
  have HY := Lib.hid hy
  have H0 := Lib.hid h
  clear hrd hgr hy hs0 h
  go_enter Try.func70, Try.ntmps70
  go_wp2_with fail
  go_loopw [7] (fun iv wr => ∃ j : Nat, iv = .int .i64 j ∧ j ≤ L.length ∧ I j wr) (fun iv _ => L.length - (intOf iv).toNat)
  case atStart => exact ⟨0, rfl, Nat.zero_le _, H0.out⟩
  case round =>
    obtain ⟨j, rfl, hj, hI⟩ := hrel
    have hj0 : (0 : Int) ≤ j := by omega
    by_cases hlt : j < L.length
    case neg =>
      have hnl : ¬ (j : Int) < L.length := by omega
      go_wp2_with fail
      go_end0
      exact ⟨rfl, .inl (by rw [show j = L.length by omega] at hI; exact hI)⟩
    case pos =>
      have hltI : (j : Int) < L.length := by omega
      obtain ⟨r, hr⟩ := get_of_lt hlt
      obtain ⟨_, hs1⟩ := RD.out _ _ hI
      obtain ⟨g, o, c', hv, hglt, hc⟩ := SlAt.node hs1 (by omega)
      cases hv
      obtain ⟨c0, c1, c2, c3, c4, c5⟩ := hc j r hr
      have hcall := HY.out j r (wr.alloc (.cells #[.int .i64 r.id.t, .int .i64 r.id.s, .int .i64 r.ref.t, .int .i64 r.ref.s, .int .i32 r.rune, .int .i64 r.st] 59)) hr (GR.out _ _ _ hI ((Kept.refl _ _).alloc _))
      unfold idV at hcall
      have R := Lib.hid hr
      clear hr hc hs1 hI
      go_wp2_with fail
      refine hcall.mono ?_
      rintro e w2 ⟨bb, rfl, ht, hf⟩
      cases bb with
      | true =>
        have T := Lib.hid (ht rfl)
        clear ht hf
        go_wp2_with fail
        go_roundw
        case rel => exact ⟨j + 1, by go_num, by omega, T.out⟩
        case measure => simp [intOf]; omega
      | false =>
        have T := Lib.hid (hf rfl)
        clear ht hf
        go_wp2_with fail
        refine bodyPost_ret (results_none rfl _ _ _) rfl ?_
        exact ⟨rfl, .inr T.out⟩
def nodeEnc (L : List Nd) (i : Nat) : Array Value := #[.agg #[.int .i64 (nth L i).id.t, .int .i64 (nth L i).id.s], .int .i32 (nth L i).rune]
set_option maxRecDepth 100000 in
set_option maxHeartbeats 8000000 in
theorem all2_iter {L : List Nd} {pl : Nat} {v : Value} (hb : L.length ≤ 1000000) :
    IterOk Fence.wide 5 Try.prog 70 #[.pointer (some ⟨pl, 0, none⟩)] L.length (nodeEnc L) (fun w => w.cell? ⟨pl, 0, none⟩ = some v ∧ SlAt nodeE w v L) := by
  intro yl I Z X0 w hrd hgr hgz hy h0
  obtain ⟨x0, hs0⟩ := hrd _ _ w h0
  obtain ⟨a, c, rfl, _, _⟩ := hs0.sl
  have RD := Lib.hid hrd
  have GR := Lib.hid hgr
  have HY := Lib.hid hy
  have H0 := Lib.hid h0
  clear hrd hgr hgz hy hs0 h0
  refine callsIn_of_wp Try.func70 rfl trivial ?_ rfl
  simp only [Try.ntmps70, List.size_toArray, List.length_cons, List.length_nil, Nat.reduceAdd, Nat.reduceSub, Array.replicate_succ, Array.replicate_zero, List.push_toArray, List.append_toArray, List.nil_append, List.cons_append]
  gi_wp2
  gi_loopw [7] (fun iv wr => ∃ j : Nat, iv = .int .i64 j ∧ j ≤ L.length ∧ ∃ X, I j X wr) (fun iv _ => L.length - (intOf iv).toNat)
  case atStart => exact ⟨0, rfl, Nat.zero_le _, _, H0.out⟩
  case round =>
    obtain ⟨j, rfl, hj, X, hI⟩ := hrel
    have hj0 : (0 : Int) ≤ j := by omega
    by_cases hlt : j < L.length
    case neg =>
      have hnl : ¬ (j : Int) < L.length := by omega
      gi_wp2
      go_end0
      exact ⟨⟨_, rfl⟩, .inl ⟨X, by rw [show j = L.length by omega] at hI; exact hI⟩⟩
    case pos =>
      have hltI : (j : Int) < L.length := by omega
      obtain ⟨r, hr⟩ := get_of_lt hlt
      obtain ⟨_, hs1⟩ := RD.out _ _ _ hI
      obtain ⟨g, o, c', hv, hglt, hc⟩ := SlAt.node hs1 (by omega)
      cases hv
      obtain ⟨c0, c1, c2, c3, c4, c5⟩ := hc j r hr
      have hcall := HY.out j _ (wr.alloc (.cells #[.int .i64 r.id.t, .int .i64 r.id.s, .int .i64 r.ref.t, .int .i64 r.ref.s, .int .i32 r.rune, .int .i64 r.st] 59)) hlt (GR.out _ _ _ _ hI ((Kept.refl _ _).alloc _))
      unfold nodeEnc at hcall
      rw [nth_some hr] at hcall
      obtain ⟨fn, tmps, assign, body, hy, hR⟩ := hcall
      have HRR := Lib.hid hR
      clear hr hc hs1 hI hR
      gi_wp2
      refine HRR.out.mono ?_
      rintro e w2 ⟨bb, rfl, _, _, ht, hf⟩
      cases bb with
      | true =>
        have T := Lib.hid (ht rfl)
        clear ht hf hy c0 c1 c2 c3 c4 c5
        gi_wp2
        go_roundw
        case rel => exact ⟨j + 1, by go_num, by omega, _, T.out⟩
        case measure => simp [intOf]; omega
      | false =>
        have T := Lib.hid (hf rfl)
        clear ht hf hy c0 c1 c2 c3 c4 c5
        gi_wp2
        refine bodyPost_ret (results_none rfl _ _ _) rfl ?_
        exact ⟨⟨_, rfl⟩, .inr ⟨_, T.out⟩⟩
end Go.Proofs.Ytlafodnaifghcaa.Tr
namespace Go.Proofs.Ytlafodnaifghcaa.Tr
open Go.RowKit Go.Proofs.Ytlafodnaifghcaa.St
theorem eq_node (x y : Nd) : decide (x = y) = ((x.id.t == y.id.t && x.id.s == y.id.s) && (x.ref.t == y.ref.t && x.ref.s == y.ref.s) && x.rune == y.rune && x.st == y.st) := by
  rw [Bool.eq_iff_iff]
  simp [Nd.ext_iff, ID.ext_iff, and_assoc]
theorem ne_node (x y : Nd) (w : World) : (binOp .neq 59 (.agg (ndC x).toArray) (.agg (ndC y).toArray)).run Try.prog w = .ok (.bool (!decide (x = y))) w := by
  rw [eq_node]
  show (binOp .neq 59 (.agg #[.int .i64 x.id.t, .int .i64 x.id.s, .int .i64 x.ref.t, .int .i64 x.ref.s, .int .i32 x.rune, .int .i64 x.st]) (.agg #[.int .i64 y.id.t, .int .i64 y.id.s, .int .i64 y.ref.t, .int .i64 y.ref.s, .int .i32 y.rune, .int .i64 y.st])).run Try.prog w = _
  cases h1 : x.id.t == y.id.t
  · go_simp
  cases h2 : x.id.s == y.id.s
  · go_simp
  cases h3 : x.ref.t == y.ref.t
  · go_simp
  cases h4 : x.ref.s == y.ref.s
  · go_simp
  cases h5 : x.rune == y.rune
  · go_simp
  cases h6 : x.st == y.st
  · go_simp
  · go_simp
set_option maxHeartbeats 4000000 in
theorem nodes_eq {w : World} {u v : Value} {L M : List Nd} (hu : SlAt nodeE w u L) (hv : SlAt nodeE w v M) (hb : L.length ≤ 1000000000) :
    Calls Try.prog 54 #[u, v] w fun e w' => e = .returned (.bool (decide (L = M))) ∧ ∃ q, w' = w.drewN q := by
  obtain ⟨a, c, rfl, _, _⟩ := hu.sl
  obtain ⟨b, d, rfl, _, _⟩ := hv.sl
  by_cases hl : L.length = M.length
  case neg =>
    have hne : decide (L = M) = false := decide_eq_false fun e => hl (by rw [e])
    have hlb : ((L.length : Int) != M.length) = true := by simp; omega
    rw [hne]
    clear hu hv hl hne
    go_enter Try.func54, Try.ntmps54
    go_wp2
    go_ret
    exact ⟨rfl, 0, rfl⟩
  case pos =>
    have hlb : ((L.length : Int) != M.length) = false := by simp; omega
    have HU := Lib.hid hu
    have HV := Lib.hid hv
    have HL := Lib.hid hl
    clear hu hv hl
    go_enter Try.func54, Try.ntmps54
    go_wp2
    go_loopw [13] (fun i wr => ∃ n q : Nat, i = .int .i64 n ∧ n ≤ L.length ∧ L.take n = M.take n ∧ wr = w.drewN q) (fun i _ => L.length - (intOf i).toNat)
    case atStart => exact ⟨0, 0, rfl, Nat.zero_le _, rfl, rfl⟩
    case round =>
      obtain ⟨n, q, rfl, hn, ht, rfl⟩ := hrel
      have TT := Lib.hid ht
      clear ht
      by_cases hlt : n < L.length
      case neg =>
        have hge : L.length ≤ n := by omega
        have e : decide (L = M) = true := decide_eq_true (by have := TT.out; rw [List.take_of_length_le hge, List.take_of_length_le (by rw [← HL.out]; exact hge)] at this; exact this)
        have E := Lib.hid e
        clear e
        go_wp2
        go_ret
        exact ⟨by rw [E.out]; rfl, _, rfl⟩
      case pos =>
        have hlM := HL.out
        obtain ⟨x, hx⟩ := get_of_lt hlt
        obtain ⟨y, hy⟩ := get_of_lt (show n < M.length by omega)
        obtain ⟨g, o, c', e1, _, h1⟩ := SlAt.node HU.out (by omega)
        obtain ⟨g', o', c2, e2, _, h2⟩ := SlAt.node HV.out (by omega)
        cases e1
        cases e2
        obtain ⟨k1, k2, k3, k4, k5, k6⟩ := h1 n x hx
        obtain ⟨l1, l2, l3, l4, l5, l6⟩ := h2 n y hy
        have X0 := Lib.hid hx
        have Y0 := Lib.hid hy
        have hn0 : (0 : Int) ≤ n := by omega
        have hnl : (n : Int) < L.length := by omega
        have hnm : (n : Int) < M.length := by omega
        clear hx hy h1 h2 hlM
        have hne := ne_node x y
        unfold ndC at hne
        by_cases hxy : x = y
        · rw [decide_eq_true hxy] at hne
          have XY := Lib.hid hxy
          clear hxy
          go_wp2
          go_quiet (fail)
          go_wp2
          go_roundw
          case rel => exact ⟨n + 1, _, by go_num, by omega, by rw [List.take_add_one, List.take_add_one, X0.out, Y0.out, TT.out, XY.out], rfl⟩
          case measure => simp [intOf]; omega
        · rw [decide_eq_false hxy] at hne
          have HNE := Lib.hid hxy
          clear hxy
          have NE : Hid (decide (L = M) = false) := decide_eq_false fun e => by
            have hz := Y0.out
            rw [← e, X0.out] at hz
            exact HNE.out (Option.some.inj hz)
          go_wp2
          go_quiet (fail)
          go_wp2
          go_ret
          exact ⟨by rw [NE.out]; rfl, _, World.drewN_drewN _ _ _⟩
end Go.Proofs.Ytlafodnaifghcaa.Tr
namespace Go.Proofs.Ytlafodnaifghcaa.St
open Go.RowKit

def idE : Enc ID := ⟨2, fun a => [.int .i64 a.t, .int .i64 a.s], fun _ => rfl, by decide, fun x u hu => by simp at hu; rcases hu with rfl | rfl <;> rfl⟩
def runE : Enc Run := ⟨3, fun r => [.int .i64 r.id.t, .int .i64 r.id.s, .int .i64 r.c], fun _ => rfl, by decide, fun x u hu => by simp at hu; rcases hu with rfl | rfl | rfl <;> rfl⟩
theorem info_id : (Try.prog.info? 27).map (fun i => (i.zero, i.size, i.bytes)) = some (some (.agg #[.int .i64 0, .int .i64 0]), 2, 16) := by kernel_rfl
theorem info_run : (Try.prog.info? 61).map (fun i => (i.zero, i.size, i.bytes)) = some (some (.agg #[.int .i64 0, .int .i64 0, .int .i64 0]), 3, 24) := by kernel_rfl
set_option maxRecDepth 100000 in
set_option maxHeartbeats 1000000 in
theorem clone_id {w : World} {v : Value} {L : List ID} (h : SlAt idE w v L) (hb : L.length ≤ 1000000000) :
    Calls Try.prog 57 #[v] w fun e w' => ∃ v', e = .returned v' ∧ w'.ownsRow w.heap.size 27 2 v' L.length (idE.flat L) ∧ Kept (fun _ => False) w w' := by
  have q := fun (w : World) (a : Option Addr) (n c n' c' : Nat) => Lib.run_eql_slice_nil (P := Try.prog) w 79 _ a n c n' c' Try.underlying79
  obtain ⟨a, c, rfl, hle, hc⟩ := h.sl
  cases a with
  | none =>
    obtain ⟨rfl, _, rfl⟩ := h.none_
    clear h hb hc hle
    go_enter Try.func57, Try.ntmps57
    go_wp2
    go_ret
    exact ⟨_, rfl, World.ownsRow_nil _ _ _ _, Kept.refl _ _⟩
  | some x =>
    obtain ⟨_, hn⟩ := h.at_
    obtain ⟨i0, hi, hz0, hz1, hz2⟩ := info_parts info_id
    have hl := idE.flat_len L
    have h1 := idE.flat_one_cell L
    generalize idE.flat L = news at hn hl h1 ⊢
    generalize L.length = n at *
    have hl2 : news.length = n * 2 := hl
    have hn2 : ∀ j u, news[j]? = some u → (w.alloc (.cells #[] 27)).cell? (x.add j) = some u := fun j u hu => by
      have hc := hn j u hu
      rw [World.cell?_of_block (a := x.add j) (w := w)]
      · exact hc
      · exact Below.heap_alloc w _ _ (World.block_lt_of_cell? w _ hc)
    have N := Lib.hid hn2
    have I := Lib.hid hi
    have Z0 := Lib.hid hz0
    have Z1 := Lib.hid hz1
    have Z2 := Lib.hid hz2
    have HL := Lib.hid hl2
    have H1 := Lib.hid h1
    have h63 : 0 + n ≤ maxLen := by unfold maxLen; omega
    have hby : (0 + n) * 16 ≤ 140737488355328 := by omega
    clear hn hn2 hi hz0 hz1 hz2 hl hl2 h1 h hc
    go_enter Try.func57, Try.ntmps57
    go_wp2_with (at_builtin; refine wpList_append_own _ rfl _ _ 79 rfl w.heap.size 27 i0 (.agg #[.int .i64 0, .int .i64 0]) 2 16 Try.underlying79 I.out Z0.out Z1.out Z2.out rfl (by decide) _ _ _ rfl (World.ownsRow_made w #[] 0 (Nat.le_refl _) (Nat.zero_le _) (by simp)) x n c news rfl HL.out N.out H1.out h63 hby (by simp) ?_)
    intro v' w1 hown hgrow _
    go_wp2
    go_ret
    refine ⟨v', rfl, by simpa using hown, ?_⟩
    exact ((Kept.refl _ _).alloc _).grown hgrow (fun k e hk => by simp [Value.ownBlock] at e; omega)
theorem SlAt.run {w : World} {v : Value} {L : List Run} (h : SlAt runE w v L) (hn : 0 < L.length) : ∃ g o c, v = .slice (some ⟨g, o, none⟩) L.length c ∧ g < w.heap.size ∧ ∀ (i : Nat) (x : Run), L[i]? = some x →
    w.cell? ⟨g, o + i * 3, none⟩ = some (.int .i64 x.id.t) ∧ w.cell? ⟨g, o + i * 3 + 1, none⟩ = some (.int .i64 x.id.s) ∧ w.cell? ⟨g, o + i * 3 + 2, none⟩ = some (.int .i64 x.c) := by
  obtain ⟨g, o, c, rfl, _, _, hg, hc⟩ := h.one hn
  exact ⟨g, o, c, rfl, hg, fun i x hx => ⟨hc i x hx 0 _ rfl, hc i x hx 1 _ rfl, hc i x hx 2 _ rfl⟩⟩
theorem SlAt.id {w : World} {v : Value} {L : List ID} (h : SlAt idE w v L) (hn : 0 < L.length) : ∃ g o c, v = .slice (some ⟨g, o, none⟩) L.length c ∧ g < w.heap.size ∧ ∀ (i : Nat) (x : ID), L[i]? = some x →
    w.cell? ⟨g, o + i * 2, none⟩ = some (.int .i64 x.t) ∧ w.cell? ⟨g, o + i * 2 + 1, none⟩ = some (.int .i64 x.s) := by
  obtain ⟨g, o, c, rfl, _, _, hg, hc⟩ := h.one hn
  exact ⟨g, o, c, rfl, hg, fun i x hx => ⟨hc i x hx 0 _ rfl, hc i x hx 1 _ rfl⟩⟩
end Go.Proofs.Ytlafodnaifghcaa.St
