/- slices.Backward's iterator. slices.AppendSeq over all. slices.Backward; one pointer taken out of a row. slices.Index of a pointer. slices.BinarySearchFunc with higher. -/
import Derived.Test.YtlafodnaifghcaaGreatH10
import Derived.Test.YtlafodnaifghcaaGreatH9
import Derived.Test.YtlafodnaifghcaaGreatH15
import Derived.Test.YtlafodnaifghcaaGreatH14
import Derived.Test.YtlafodnaifghcaaGreatH6
import Derived.LaidEqlPtr
import Derived.Shelf.SlSortCmp.QuietGrown
import Derived.Deep.QuietTactic
import Derived.BigQuiet
import Derived.IntWalk
namespace Go.Proofs.YtlafodnaifghcaaGreat.Tr
open Go.RowKit Go.Proofs.YtlafodnaifghcaaGreat.St Go.Shelf
attribute [local go_sem] Oper.semAt_some
/-- the i-th from the end -/
def bwdAt (D : List Nat) (i : Nat) : Nat := D[D.length - 1 - i]?.getD 0
def bwdEnc (D : List Nat) (i : Nat) : Array Value := #[.int .i64 ((D.length : Int) - 1 - i), .pointer (some ⟨bwdAt D i, 0, none⟩)]
set_option maxRecDepth 100000 in
set_option maxHeartbeats 8000000 in
theorem bwd_iter {D : List Nat} {pl : Nat} {v : Value} (hb : D.length ≤ 1000000) :
    IterOk Fence.wide 5 Tryz.prog 96 #[.pointer (some ⟨pl, 0, none⟩)] D.length (bwdEnc D) (fun w => w.cell? ⟨pl, 0, none⟩ = some v ∧ SlAt ptrE w v D) := by
  intro yl I Z X0 w hrd hgr hgz hy h0
  obtain ⟨x0, hs0⟩ := hrd _ _ w h0
  obtain ⟨a, c, rfl, _, _⟩ := hs0.sl
  have RD := Lib.hid hrd
  have GR := Lib.hid hgr
  have HY := Lib.hid hy
  have H0 := Lib.hid h0
  have e0 : IntKind.i64.wrap ((D.length : Int) - 1) = (D.length : Int) - 1 := IntWalk.i64_in _ (by omega)
  clear hrd hgr hgz hy hs0 h0
  refine callsIn_of_wp Tryz.func96 rfl trivial ?_ rfl
  simp only [Tryz.ntmps96, List.size_toArray, List.length_cons, List.length_nil, Nat.reduceAdd, Nat.reduceSub, Array.replicate_succ, Array.replicate_zero, List.push_toArray, List.append_toArray, List.nil_append, List.cons_append]
  gi_wp2
  gi_loopw [3] (fun iv wr => ∃ j : Nat, iv = .int .i64 ((D.length : Int) - 1 - j) ∧ j ≤ D.length ∧ ∃ X, I j X wr) (fun iv _ => (intOf iv + 1).toNat)
  case atStart => exact ⟨0, by simp, Nat.zero_le _, _, H0.out⟩
  case round =>
    obtain ⟨j, rfl, hj, X, hI⟩ := hrel
    by_cases hlt : j < D.length
    case neg =>
      have hnl : ¬ (0 : Int) ≤ (D.length : Int) - 1 - j := by omega
      gi_wp2
      go_end0
      exact ⟨⟨_, rfl⟩, .inl ⟨X, by rw [show j = D.length by omega] at hI; exact hI⟩⟩
    case pos =>
      obtain ⟨k, hk⟩ : ∃ k : Nat, (D.length : Int) - 1 - j = k := ⟨D.length - 1 - j, by omega⟩
      have hkn : D.length - 1 - j = k := by omega
      have hkl : k < D.length := by omega
      have hk1 : (k : Int) < D.length := by omega
      have hk0 : (0 : Int) ≤ k := by omega
      have e1 : IntKind.i64.wrap ((k : Int) - 1) = (k : Int) - 1 := IntWalk.i64_in _ (by omega)
      obtain ⟨r, hr⟩ := get_of_lt hkl
      obtain ⟨c0, hs1⟩ := RD.out _ _ _ hI
      obtain ⟨b, o, c', hv, _, _, hbl, hc⟩ := hs1.one (by omega)
      cases hv
      have c1 : wr.cell? ⟨b, o + k, none⟩ = some (.pointer (some ⟨r, 0, none⟩)) := by
        have h9 := hc k r hr 0 _ rfl
        rw [show ptrE.k = 1 from rfl] at h9
        simpa using h9
      have hcall := HY.out j _ wr hlt hI
      unfold bwdEnc bwdAt at hcall
      rw [hkn, hr, hk] at hcall
      simp only [Option.getD_some] at hcall
      obtain ⟨fn, tmps, assign, body, hy, hR⟩ := hcall
      have HRR := Lib.hid hR
      have HK := Lib.hid hk
      rw [hk]
      clear hr hc hs1 hI hR hk hkn
      gi_wp2
      refine HRR.out.mono ?_
      rintro e w2 ⟨bb, rfl, _, _, ht, hf⟩
      cases bb with
      | true =>
        have T := Lib.hid (ht rfl)
        clear ht hf hy c0 c1
        gi_wp2
        go_roundw
        case rel => exact ⟨j + 1, by have := HK.out; first | (congr 1; push_cast; omega) | go_num, by omega, _, T.out⟩
        case measure => simp [intOf] <;> omega
      | false =>
        have T := Lib.hid (hf rfl)
        clear ht hf hy c0 c1
        gi_wp2
        refine bodyPost_ret (results_none rfl _ _ _) rfl ?_
        exact ⟨⟨_, rfl⟩, .inr ⟨_, T.out⟩⟩
end Go.Proofs.YtlafodnaifghcaaGreat.Tr
namespace Go.Proofs.YtlafodnaifghcaaGreat.Tr
open Go.RowKit Go.Proofs.YtlafodnaifghcaaGreat.St Go.Shelf
attribute [local go_sem] Oper.semAt_some
theorem info_ptrS : (Tryz.prog.info? 89).map (fun i => (i.zero, i.size, i.bytes)) = some (some (.pointer none), 1, 8) := by kernel_rfl
def seqB (z : Nat) (v : Value) : List Box := [(z, 27, #[v])]
theorem seqB_nodup (z : Nat) (v : Value) : ((seqB z v).map (·.1)).Nodup := by simp [seqB]
def seqJ (w : World) (B g : Nat) (L : List Nd) (A : ID → Nat) (S : ID → Rw) (mp : Option Nat) (i : Nat) (X : Nat → Prop) (W : World) : Prop :=
  Gro ptrE 89 w B (fun _ => False) (seqB w.heap.size) g L A S mp ((L.take i).map fun n => A n.id) X W
set_option maxRecDepth 100000 in
set_option maxHeartbeats 8000000 in
theorem seq_any {w : World} {g : Nat} {L : List Nd} {A : ID → Nat} {S : ID → Rw} {mp : Option Nat} (h : TAt w g L A S mp) (hdoc : Doc L) (hlen : L.length ≤ 900000) {pl : Nat} (hpl : w.cell? ⟨pl, 0, none⟩ = some (.pointer (some ⟨g, 0, none⟩))) :
    Calls Tryz.prog 97 #[.slice none 0 0, .func (.func 95) #[] #[.pointer (some ⟨pl, 0, none⟩)]] w fun e w' => (∃ v, e = .returned v ∧ w'.ownsRow w.heap.size 89 1 v L.length (ptrE.flat (L.map fun n => A n.id))) ∧ Kept (fun _ => False) w w' := by
  refine (callsIn_wide (n := 6)).1 ?_
  refine callsIn_of_wp_marks Tryz.func97 rfl trivial ?_ rfl
  simp only [Tryz.ntmps97, List.size_toArray, List.length_cons, List.length_nil, Nat.reduceAdd, Nat.reduceSub, Array.replicate_succ, Array.replicate_zero, List.push_toArray, List.append_toArray, List.nil_append, List.cons_append]
  gi_wp2
  obtain ⟨W0, hW0⟩ : ∃ W0, (w.alloc (.cells #[.slice none 0 0] 27)) = W0 := ⟨_, rfl⟩
  have hC : CJ w W0.heap.size (fun _ => False) (seqB w.heap.size (.slice none 0 0)) g L A S mp (fun _ => False) W0 := by
    rw [← hW0]
    have h9 := (CJ.start (M := fun _ => False) h).boxed #[.slice none 0 0] 27
    simp only [World.size_alloc] at h9 ⊢
    exact h9
  rw [hW0]
  clear hW0
  refine wpIn_iter rfl (by decide) (gf := 95) (lb := #[.pointer (some ⟨pl, 0, none⟩)]) rfl trivial (enters_of Tryz.func95 (by kernel_rfl) rfl) (all1_iter (A := A) (S := S) (g := g) trivial rfl (by decide) hdoc hlen) (fun _ _ => rfl) W0.heap.size rfl (seqJ w W0.heap.size g L A S mp) (fun _ _ _ => False) ?hrd ?hgr ?hgx ?hob ?hox ?h0 ?round ?done ?stop
  case hrd => rintro i X W ⟨v, hJ, _⟩; exact ⟨hJ.kept.cell hpl, hJ.tree.shape⟩
  case hgr => intro i X W W' hJ hk; exact Gro.grow hJ hk
  case hgx => intro c X W W' h _; exact h
  case hob => intro i X W o' hJ; exact Gro.put hJ o'
  case hox => intro c X W o' hJ; exact hJ
  case h0 =>
    intro o1 o2
    have h9 : Gro ptrE 89 w W0.heap.size (fun _ => False) (seqB w.heap.size) g L A S mp [] (fun _ => False) W0 := ⟨_, hC, World.ownsRow_nil .., fun b hb => by cases hb⟩
    exact (h9.alloc o1).alloc o2
  case round =>
    intro i W K hi hK
    have hm := nth_lt hi
    unfold allEnc
    generalize nth L i = m at hm ⊢
    gi_wp2
    rintro X W h2 ⟨v, hJ, hO, hX⟩
    obtain ⟨va, vc, rfl⟩ := owns_sl hO
    have hli : ((L.take i).map fun n => A n.id).length = i := by rw [List.length_map, List.length_take]; omega
    have hlen2 : ((L.take i).map fun n => A n.id).length ≤ 1000000 := by rw [hli]; omega
    have hlit : SlAt ptrE (W.alloc (.cells #[.pointer (some ⟨A m.id, 0, none⟩)] 89)) (.slice (some ⟨W.heap.size, 0, none⟩) 1 1) [A m.id] := SlAt.lit [A m.id] _ (by simp [Enc.flat, ptrE]) (by unfold maxLen; simp)
    have hk1 : Kept (fun _ => False) W (W.alloc (.cells #[.pointer (some ⟨A m.id, 0, none⟩)] 89)) := (Kept.refl _ _).alloc _
    have hown := owns_keep hO hk1 (fun _ _ h => h)
    rw [show Value.slice va ((L.take i).map fun n => A n.id).length vc = .slice va i vc by rw [hli]] at hown hO hJ hX
    have c0 : W.cell? ⟨w.heap.size, 0, none⟩ = some (.slice va i vc) := hJ.cell 0 rfl 0 rfl
    have hs2 := hJ.size
    have HOWN := Lib.hid hown
    have HK1 := Lib.hid hk1
    have HB := Lib.hid (show W0.heap.size + 2 ≤ (W.alloc (.cells #[.pointer (some ⟨A m.id, 0, none⟩)] 89)).heap.size by simp; omega)
    have HJ := Lib.hid hJ
    have HO := Lib.hid hO
    have HX := Lib.hid hX
    have H2 := Lib.hid h2
    have HM := Lib.hid hm
    have HLIT := Lib.hid hlit
    have HL2 := Lib.hid hlen2
    have HLI := Lib.hid hli
    clear hJ hO hX h2 hm hlit hlen2 hli hown hk1 hs2
    gi_wp2_with (gi_at_builtin; (refine wpListIn_append_keeps ptrE rfl (.tmp 8) (.tmp 10) 27 rfl (W0.heap.size + 2) 89 (.pointer none) 8 Tryz.underlying27 info_ptrS rfl (by decide) rfl rfl HOWN.out HLIT.out HL2.out HB.out ?_); (rintro v2 w2 ho2 hg2; have hJ2 := Gro.after HJ.out HO.out HK1.out hg2; have G2 := Lib.hid hg2; rw [HLI.out] at ho2; obtain ⟨va2, vc2, rfl⟩ := owns_sl ho2; have O2 := Lib.hid ho2; have d0 : w2.cell? ⟨w.heap.size, 0, none⟩ = some (.slice va i vc) := hJ2.cell 0 rfl 0 rfl; have g0 := hJ2.frozen 0 rfl 0; clear hJ2 ho2 hg2))
    have hG := Gro.appended (x := A m.id) HJ.out HO.out HX.out H2.out HK1.out G2.out (by rw [HLI.out]) O2.out 0 rfl (seqB_nodup ..) rfl
    refine ⟨hG.1.1, hG.1.2, ?_⟩
    show Gro _ _ _ _ _ _ _ _ _ _ _ _ _ _
    rw [List.take_add_one, HM.out, Option.toList_some, List.map_append]
    exact hG.2
  case done =>
    rintro X W hJ0 hK
    obtain ⟨v, hJ, hO, hX⟩ := hJ0
    rw [List.take_length] at hO
    have c0 : W.cell? ⟨w.heap.size, 0, none⟩ = some v := hJ.cell 0 rfl 0 rfl
    have HJ := Lib.hid hJ
    have HO := Lib.hid hO
    have HK := Lib.hid hK
    clear hJ hO hX hK
    gi_wp2
    have hC2 := HJ.out.taken (.deferred none)
    have hO3 := owns_keep HO.out (kept_put W W0.heap.size (.deferred none)) fun b hb e => by have := (owns_lt HO.out b hb).1; omega
    have hs0 := HJ.out.size.1
    rw [List.length_map] at hO3
    refine ret_range HK.out (results_tmp rfl _ _ _) ⟨⟨v, rfl, hO3.1, ?_⟩, hC2.kept⟩
    rcases hO3.2 with h5 | ⟨g', cap, cur, e1, e2, e3⟩
    · exact .inl h5
    · exact .inr ⟨g', cap, cur, e1, by omega, e3⟩
  case stop =>
    rintro c X W h _
    exact h.elim
/-- slices.Collect over all -/
theorem scollect_any {w : World} {g : Nat} {L : List Nd} {A : ID → Nat} {S : ID → Rw} {mp : Option Nat} (h : TAt w g L A S mp) (hdoc : Doc L) (hlen : L.length ≤ 900000) {pl : Nat} (hpl : w.cell? ⟨pl, 0, none⟩ = some (.pointer (some ⟨g, 0, none⟩))) :
    Calls Tryz.prog 65 #[.func (.func 95) #[] #[.pointer (some ⟨pl, 0, none⟩)]] w fun e w' => (∃ v, e = .returned v ∧ w'.ownsRow w.heap.size 89 1 v L.length (ptrE.flat (L.map fun n => A n.id))) ∧ Kept (fun _ => False) w w' := by
  have HS := Lib.hid (seq_any h hdoc hlen hpl)
  clear h hpl
  go_enter Tryz.func65, Tryz.ntmps65
  go_wp2_with (go_at_call 97; refine HS.out.mono ?_; rintro e w' ⟨⟨v, rfl, ho⟩, hk⟩)
  go_ret
  exact ⟨⟨v, rfl, ho⟩, hk⟩
end Go.Proofs.YtlafodnaifghcaaGreat.Tr
namespace Go.Proofs.YtlafodnaifghcaaGreat.Tr
open Go.RowKit Go.Proofs.YtlafodnaifghcaaGreat.St
theorem bwd_any (a : Option Addr) (n c : Nat) (w : World) : Calls Tryz.prog 64 #[.slice a n c] w fun e w' =>
    e = .returned (.func (.func 96) #[] #[.pointer (some ⟨w.heap.size, 0, none⟩)]) ∧ w' = w.alloc (.cells #[.slice a n c] 27) := by
  go_enter Tryz.func64, Tryz.ntmps64
  go_wp2
  go_ret
  exact ⟨rfl, rfl⟩
theorem size_ptrB : (Tryz.prog.info? 89).map (·.size) = some ptrE.k := by kernel_rfl
theorem zero_elB (w : World) : (zeroValue 89).run Tryz.prog w = .ok (.pointer none) w := by kernel_rfl
/-- what is left is moved up and the last place cleared -/
theorem erase_mid {w : World} {b cap i : Nat} {D : List Nat} (h : OwnAt ptrE w 89 b cap D) (hi : i + 1 < D.length) (c1 c2 c3 : Nat) :
    ∃ w2, (Builtin.copy_ #[27, 27] 3 #[.slice (some ⟨b, i, none⟩) (D.length - i) c1, .slice (some ⟨b, i + 1, none⟩) (D.length - (i + 1)) c2]).run Tryz.prog w = .ok (.int .i64 ((D.length - (i + 1) : Nat) : Int)) w2 ∧ OwnAt ptrE w2 89 b cap (D.eraseIdx i) ∧ Kept (· = b) w w2 ∧
      ∀ w2', Kept (fun _ => False) w2 w2' → ∃ w3, (Builtin.clear_ #[27] 0 #[.slice (some ⟨b, D.length - 1, none⟩) 1 c3]).run Tryz.prog w2' = .ok (.tuple #[]) w3 ∧ OwnAt ptrE w3 89 b cap (D.eraseIdx i) ∧ Kept (· = b) w2' w3 := by
  obtain ⟨w2, h1, h2, h3⟩ := run_copy_erase (P := Tryz.prog) h 27 27 3 89 Tryz.underlying27 size_ptrB hi c1 c2
  rw [show ptrE.k = 1 from rfl, Nat.mul_one, Nat.mul_one] at h1
  refine ⟨w2, h1, h2, h3, fun w2' hk => ?_⟩
  have hl : (D.eraseIdx i).length = D.length - 1 := by rw [List.length_eraseIdx, if_pos (by omega)]
  have hc := h.le
  obtain ⟨w3, k1, k2, k3⟩ := run_clear_own (P := Tryz.prog) (h2.keep hk (fun h => h)) (T := 27) 0 Tryz.underlying27 zero_elB rfl (fun u hu => by rcases (show u = .pointer none by simpa [Value.cells] using hu) with rfl; rfl) (i := D.length - 1) (n := 1) (c := c3) (by omega)
  rw [show ptrE.k = 1 from rfl, Nat.mul_one] at k1
  rw [List.take_of_length_le (by omega)] at k2
  exact ⟨w3, k1, k2, k3⟩
/-- the last one -/
theorem erase_end {w : World} {b cap i : Nat} {D : List Nat} (h : OwnAt ptrE w 89 b cap D) (hi : i + 1 = D.length) (a : Option Addr) (c1 c2 c3 : Nat) :
    (Builtin.copy_ #[27, 27] 3 #[.slice (some ⟨b, i, none⟩) (D.length - i) c1, .slice a 0 c2]).run Tryz.prog w = .ok (.int .i64 0) w ∧
      ∀ w2', Kept (fun _ => False) w w2' → ∃ w3, (Builtin.clear_ #[27] 0 #[.slice (some ⟨b, i, none⟩) 1 c3]).run Tryz.prog w2' = .ok (.tuple #[]) w3 ∧ OwnAt ptrE w3 89 b cap (D.eraseIdx i) ∧ Kept (· = b) w2' w3 := by
  refine ⟨run_copy_noneK (P := Tryz.prog) w 27 27 3 89 _ a _ c1 0 c2 (k := 1) Tryz.underlying27 size_ptrB (by simp), fun w2' hk => ?_⟩
  have hc := h.le
  obtain ⟨w3, k1, k2, k3⟩ := run_clear_own (P := Tryz.prog) (h.keep hk (fun h => h)) (T := 27) 0 Tryz.underlying27 zero_elB rfl (fun u hu => by rcases (show u = .pointer none by simpa [Value.cells] using hu) with rfl; rfl) (i := i) (n := 1) (c := c3) (by omega)
  rw [show ptrE.k = 1 from rfl, Nat.mul_one] at k1
  have e : D.eraseIdx i = D.take i := by
    rw [List.eraseIdx_eq_take_drop_succ, List.drop_of_length_le (by omega), List.append_nil]
  rw [← e] at k2
  exact ⟨w3, k1, k2, k3⟩
end Go.Proofs.YtlafodnaifghcaaGreat.Tr
namespace Go.Proofs.YtlafodnaifghcaaGreat.Tr
open Go.RowKit Go.Proofs.YtlafodnaifghcaaGreat.St
/-- elements' addresses compared -/
theorem eq_ptr {w : World} {x y : Nat} {t1 t2 : TypeId} {c1 c2 : Array Value} (hx : Blk w x t1 c1) (hy : Blk w y t2 c2) :
    (binOp .eql 89 (.pointer (some ⟨x, 0, none⟩)) (.pointer (some ⟨y, 0, none⟩))).run Tryz.prog w = .ok (.bool (decide (x = y))) w := by
  have hp : Tryz.prog.underlying 89 = some (.pointer 97) := by kernel_rfl
  have hi : (Tryz.prog.info? 97).map (·.size) = some 7 := by kernel_rfl
  obtain ⟨j, hj, hs⟩ := Option.map_eq_some_iff.1 hi
  by_cases e : x = y
  · subst e
    rw [decide_eq_true rfl]
    exact run_eql_ptr_same w _ hp hj
  · rw [decide_eq_false e]
    exact run_eql_ptr_other w hp hj (by omega) (fun h => e (by injection h)) hx hy
set_option maxRecDepth 100000 in
set_option maxHeartbeats 2000000 in
theorem index_any {w : World} {v : Value} {D : List Nat} (hv : SlAt ptrE w v D) (hl : D.length ≤ 1000000) {x i : Nat} (hi : D[i]? = some x) (hno : ∀ j < i, D[j]? ≠ some x) (hel : ∀ y ∈ D, ∃ t cs, Blk w y t cs) :
    Calls Tryz.prog 67 #[v, .pointer (some ⟨x, 0, none⟩)] w fun e w' => e = .returned (.int .i64 i) ∧ w = w' := by
  have hin := (List.getElem?_eq_some_iff.1 hi).1
  obtain ⟨b, o, c, rfl, _, _, hbl, hc⟩ := hv.one (by omega)
  have HC := Lib.hid hc
  have HI := Lib.hid hi
  have HN := Lib.hid hno
  have HE := Lib.hid hel
  have hxm := List.mem_of_getElem? hi
  clear hv hc hi hno hel
  go_enter Tryz.func67, Tryz.ntmps67
  go_wp2_with fail
  go_loopw [8] (fun kv wr => ∃ k : Nat, kv = .int .i64 k ∧ k ≤ i ∧ w = wr) (fun kv _ => D.length - (intOf kv).toNat)
  case atStart => exact ⟨0, rfl, Nat.zero_le _, rfl⟩
  case round =>
    obtain ⟨k, rfl, hk, rfl⟩ := hrel
    have h1 : (k : Int) < D.length := by omega
    have h2 : (0 : Int) ≤ k := by omega
    have e1 : IntKind.i64.wrap ((k : Int) + 1) = (k : Int) + 1 := IntWalk.i64_in _ (by omega)
    obtain ⟨y, hy⟩ : ∃ y, D[k]? = some y := ⟨_, List.getElem?_eq_getElem (by omega)⟩
    have hcell : w.cell? ⟨b, o + k, none⟩ = some (.pointer (some ⟨y, 0, none⟩)) := by
      have h9 := HC.out k y hy 0 _ rfl
      rw [show ptrE.k = 1 from rfl] at h9
      simpa using h9
    obtain ⟨t1, c1, hb1⟩ := HE.out x hxm
    obtain ⟨t2, c2, hb2⟩ := HE.out y (List.mem_of_getElem? hy)
    have heq := eq_ptr hb1 hb2
    clear hb1 hb2
    by_cases hxy : x = y
    · subst hxy
      have hki : k = i := by
        rcases Nat.lt_or_eq_of_le hk with h | h
        · exact absurd hy (HN.out k h)
        · exact h
      have HK := Lib.hid hki
      rw [decide_eq_true rfl] at heq
      clear hki hy
      go_wp2_with fail
      go_ret
      exact ⟨by rw [← HK.out]; rfl, rfl⟩
    · have hne : ¬ y = x := fun e => hxy e.symm
      have hlt : k < i := by
        rcases Nat.lt_or_eq_of_le hk with h | h
        · exact h
        · subst h; rw [HI.out] at hy; cases hy; exact absurd rfl hxy
      rw [decide_eq_false hxy] at heq
      clear hy
      go_wp2_with fail
      go_roundw
      case rel => exact ⟨k + 1, by go_num, by omega, trivial⟩
      case measure => simp [intOf]; omega
end Go.Proofs.YtlafodnaifghcaaGreat.Tr
namespace Go.Proofs.YtlafodnaifghcaaGreat.Tr
open Go.RowKit Go.Proofs.YtlafodnaifghcaaGreat.St Go.Sort
theorem grew_grown {w : World} (n : Nat) (os : Array Obj) : Grew w (grow (w.drewN n) os) := ⟨n, os, rfl⟩
theorem grown_call {f : FuncId} {args : Array Value} {w : World} {v : Value} (h : ∀ w', Grew w w' → Calls Tryz.prog f args w' fun e w'' => e = .returned v ∧ Grew w' w'') (n : Nat) (os : Array Obj) :
    Calls Tryz.prog f args (grow (w.drewN n) os) fun e w'' => e = .returned v ∧ ∃ p : GrownBy, w'' = grow (w.drewN p.n) p.os :=
  Calls.grown_of ((h _ (grew_grown n os)).mono fun _ _ ⟨he, q, os', hq⟩ => ⟨he, q, os', hq⟩)
/-- what the search answers -/
def SearchPost (w : World) (N : List Nd) (i : ID) (e : Ending) (w' : World) : Prop := (∃ b, e = .returned (.tuple #[.int .i64 (N.takeWhile fun n => decide (i.lt n.id)).length, .bool b]) ∧ (b = true → ∃ n ∈ N, n.id = i)) ∧ Grew w w'
theorem search_done {w w' : World} {N : List Nd} {i : ID} {lo : Nat} {b : Bool} (h : (N.takeWhile fun n => decide (i.lt n.id)).length = lo) (hg : Grew w w') (hb : b = true → ∃ n ∈ N, n.id = i) : SearchPost w N i (.returned (.tuple #[.int .i64 lo, .bool b])) w' := ⟨⟨b, by rw [h], hb⟩, hg⟩
/-- where the search stands -/
def SearchRel (w : World) (N : List Nd) (i : ID) (iv jv : Value) (wr : World) : Prop :=
  ∃ lo hi : Nat, iv = .int .i64 lo ∧ jv = .int .i64 hi ∧ lo ≤ hi ∧ hi ≤ N.length ∧ (∀ k m, k < lo → N[k]? = some m → i.lt m.id) ∧ (∀ k m, hi ≤ k → N[k]? = some m → ¬ i.lt m.id) ∧ Grew w wr
set_option maxRecDepth 100000 in
set_option maxHeartbeats 4000000 in
theorem bsf_any {w : World} {v : Value} {N : List Nd} {A : ID → Nat} (hv : SlAt ptrE w v (N.map fun n => A n.id)) (hel : ∀ n ∈ N, w.cell? ⟨A n.id, 0, none⟩ = some (.int .i64 n.id.t) ∧ w.cell? ⟨A n.id, 1, none⟩ = some (.int .i64 n.id.s)) (hl : N.length ≤ 1000000) (i : ID) (hsort : N.Pairwise fun a b => b.id.lt a.id) :
    Calls Tryz.prog 80 #[v, idV i, .func (.func 81) #[] #[]] w (SearchPost w N i) := by
  obtain ⟨a, c, rfl, _, _⟩ := hv.sl
  rw [List.length_map]
  have HV := Lib.hid hv
  have HE := Lib.hid hel
  have HS := Lib.hid hsort
  have HG := Lib.hid (Grew.alloc (Grew.refl w) (.cells #[.int .i64 i.t, .int .i64 i.s] 37))
  have HB := Lib.hid (Blk.new w 37 #[.int .i64 i.t, .int .i64 i.s])
  clear hv hel hsort
  unfold idV
  go_enter Tryz.func80, Tryz.ntmps80
  go_wp2_with fail
  go_loopw [9, 10] (SearchRel (w.alloc (.cells #[.int .i64 i.t, .int .i64 i.s] 37)) N i) (fun iv jv _ => (intOf jv - intOf iv).toNat)
  case atStart => exact ⟨0, N.length, rfl, rfl, Nat.zero_le _, Nat.le_refl _, fun k m h => absurd h (Nat.not_lt_zero _), fun k m h hm => by have := (List.getElem?_eq_some_iff.1 hm).1; omega, Grew.refl _⟩
  case round =>
    obtain ⟨lo, hi, rfl, rfl, h1, h2, hlo, hhi, hg⟩ := hrel
    have LO := Lib.hid hlo
    have HI := Lib.hid hhi
    have G := Lib.hid hg
    clear hlo hhi hg
    by_cases hlt : lo < hi
    · have hltI : (lo : Int) < hi := by omega
      have hb1 : (hi : Int) ≤ 1000000 := by omega
      have hb0 : (0 : Int) ≤ lo := by omega
      have hb2 : (0 : Int) ≤ hi := by omega
      obtain ⟨h, hh⟩ : ∃ h : Nat, ((lo : Int) + (hi : Int)) / 2 = (h : Int) := ⟨(lo + hi) / 2, by omega⟩
      have hh1 : lo ≤ h ∧ h < hi := by omega
      have hhN : h < N.length := by omega
      obtain ⟨m, hm⟩ : ∃ m, N[h]? = some m := ⟨_, List.getElem?_eq_getElem hhN⟩
      have hrow := (HV.out.kept HG.out.kept).kept G.out.kept
      obtain ⟨b, o, c', hv, _, _, hbl, hc⟩ := hrow.one (by simp; omega)
      obtain ⟨rfl, rfl⟩ : a = some ⟨b, o, none⟩ ∧ c = c' := by rw [List.length_map] at hv; injection hv with e1 _ e3; exact ⟨e1, e3⟩
      have hcell : wr.cell? ⟨b, o + h, none⟩ = some (.pointer (some ⟨A m.id, 0, none⟩)) := by
        have h9 := hc h (A m.id) (by simp [hm]) 0 _ rfl
        rw [show ptrE.k = 1 from rfl] at h9
        simpa using h9
      have hz := HB.out
      have hzl := G.out.size
      have b0 := (G.out.box hz).cell' (i := 0) (v := .int .i64 i.t) rfl
      have b1 := (G.out.box hz).cell' (i := 1) (v := .int .i64 i.s) rfl
      have hzb : w.heap.size < wr.heap.size := (G.out.box hz).lt
      have cg0 := cell_grown (a := ⟨w.heap.size, 0, none⟩) hzb b0
      have cg1 := cell_grown (a := ⟨w.heap.size, 1, none⟩) hzb b1
      have cg2 := cell_grown (a := ⟨b, o + h, none⟩) hbl hcell
      obtain ⟨he0, he1⟩ := HE.out m (List.mem_of_getElem? hm)
      have hkk : Kept (fun _ => False) w wr := HG.out.kept.trans G.out.kept fun _ _ h => h
      have HC : Hid (∀ w', Grew wr w' → Calls Tryz.prog 81 #[.pointer (some ⟨A m.id, 0, none⟩), .agg #[.int .i64 i.t, .int .i64 i.s]] w' fun e w'' => e = .returned (.int .i64 (i.cmp m.id)) ∧ Grew w' w'') := Lib.hid fun w' hg' =>
        higher_any (n := m) i (cell_keep (hkk.trans hg'.kept fun _ _ h => h) he0) (cell_keep (hkk.trans hg'.kept fun _ _ h => h) he1)
      have hmix : Tryz.prog.follows .mixedOrders = true := by kernel_rfl
      have HM := Lib.hid hm
      have H1 := Lib.hid hh1
      have hin : (h : Int) < N.length := by omega
      have hin0 : (0 : Int) ≤ h := by omega
      clear hrow hv hc hcell hz hzl b0 b1 hbl hzb he0 he1 hkk hm hh1
      have hbd := cmp_bd i m.id
      by_cases q : i.lt m.id
      · have q1 : i.cmp m.id < 0 := cmp_lt.2 q
        generalize i.cmp m.id = k at *
        go_wp2_with fail
        go_quiet_grown ((go_at_call 81; exact grown_call HC.out _ _))
        go_wp2_with fail
        go_roundw
        case rel =>
          have hh1 := H1.out
          exact ⟨h + 1, hi, by go_num, rfl, by omega, by omega, fun k m' hk hm' => by
            rcases Nat.lt_or_ge k lo with hk2 | hk2
            · exact LO.out k m' hk2 hm'
            · rcases Nat.lt_succ_iff_lt_or_eq.1 hk with hk3 | rfl
              · exact ID.lt_trans q ((List.pairwise_iff_getElem.1 HS.out k h (List.getElem?_eq_some_iff.1 hm').1 hhN hk3) |> fun h5 => by rw [(List.getElem?_eq_some_iff.1 hm').2, (List.getElem?_eq_some_iff.1 HM.out).2] at h5; exact h5)
              · rw [HM.out] at hm'; cases hm'; exact q, HI.out, G.out.trans (grew_grown _ _)⟩
        case measure => have hh1 := H1.out; simp [intOf]; omega
      · have q1 : ¬ i.cmp m.id < 0 := fun h => q (cmp_lt.1 h)
        generalize i.cmp m.id = k at *
        go_wp2_with fail
        go_quiet_grown ((go_at_call 81; exact grown_call HC.out _ _))
        go_wp2_with fail
        go_roundw
        case rel =>
          have hh1 := H1.out
          exact ⟨lo, h, rfl, rfl, by omega, by omega, LO.out, fun k m' hk hm' => by
            rcases Nat.lt_or_ge k hi with hk2 | hk2
            · rcases Nat.lt_or_eq_of_le hk with hk3 | rfl
              · intro hlt'
                refine q (ID.lt_trans hlt' ((List.pairwise_iff_getElem.1 HS.out h k hhN (List.getElem?_eq_some_iff.1 hm').1 hk3) |> fun h5 => by rw [(List.getElem?_eq_some_iff.1 hm').2, (List.getElem?_eq_some_iff.1 HM.out).2] at h5; exact h5))
              · rw [HM.out] at hm'; cases hm'; exact q
            · exact HI.out k m' hk2 hm', G.out.trans (grew_grown _ _)⟩
        case measure => have hh1 := H1.out; simp [intOf]; omega
    · have heq : lo = hi := by omega
      subst heq
      have hcount : (N.takeWhile fun n => decide (i.lt n.id)).length = lo := by
        have hsplit : N = N.take lo ++ N.drop lo := (List.take_append_drop _ _).symm
        have h3 : (N.takeWhile fun n => decide (i.lt n.id)) = N.take lo := by
          conv => lhs; rw [hsplit]
          rw [List.takeWhile_append_of_pos (fun m hm => by
            obtain ⟨k, hk, e⟩ := List.mem_take_iff_getElem.1 hm
            simpa using LO.out k m (by omega) (by rw [← e]; exact List.getElem?_eq_getElem _))]
          cases hd : N.drop lo with
          | nil => simp
          | cons m r =>
            have hm : N[lo]? = some m := by have h9 := congrArg (fun l => l[0]?) hd; simpa using h9
            rw [List.takeWhile_cons_of_neg (by simpa using HI.out lo m (Nat.le_refl _) hm), List.append_nil]
        rw [h3, List.length_take, Nat.min_eq_left h2]
      have HCN := Lib.hid hcount
      clear hcount
      have hloI : ¬ (lo : Int) < lo := by omega
      by_cases hend : lo < N.length
      · obtain ⟨m, hm⟩ : ∃ m, N[lo]? = some m := ⟨_, List.getElem?_eq_getElem hend⟩
        have hrow := (HV.out.kept HG.out.kept).kept G.out.kept
        obtain ⟨b, o, c', hv, _, _, hbl, hc⟩ := hrow.one (by simp; omega)
        obtain ⟨rfl, rfl⟩ : a = some ⟨b, o, none⟩ ∧ c = c' := by rw [List.length_map] at hv; injection hv with e1 _ e3; exact ⟨e1, e3⟩
        have hcell : wr.cell? ⟨b, o + lo, none⟩ = some (.pointer (some ⟨A m.id, 0, none⟩)) := by
          have h9 := hc lo (A m.id) (by simp [hm]) 0 _ rfl
          rw [show ptrE.k = 1 from rfl] at h9
          simpa using h9
        have hz := HB.out
        have b0 := (G.out.box hz).cell' (i := 0) (v := .int .i64 i.t) rfl
        have b1 := (G.out.box hz).cell' (i := 1) (v := .int .i64 i.s) rfl
        have hzb : w.heap.size < wr.heap.size := (G.out.box hz).lt
        have cg0 := cell_grown (a := ⟨w.heap.size, 0, none⟩) hzb b0
        have cg1 := cell_grown (a := ⟨w.heap.size, 1, none⟩) hzb b1
        have cg2 := cell_grown (a := ⟨b, o + lo, none⟩) hbl hcell
        obtain ⟨he0, he1⟩ := HE.out m (List.mem_of_getElem? hm)
        have hkk : Kept (fun _ => False) w wr := HG.out.kept.trans G.out.kept fun _ _ h => h
        have HC : Hid (∀ w', Grew wr w' → Calls Tryz.prog 81 #[.pointer (some ⟨A m.id, 0, none⟩), .agg #[.int .i64 i.t, .int .i64 i.s]] w' fun e w'' => e = .returned (.int .i64 (i.cmp m.id)) ∧ Grew w' w'') := Lib.hid fun w' hg' =>
          higher_any (n := m) i (cell_keep (hkk.trans hg'.kept fun _ _ h => h) he0) (cell_keep (hkk.trans hg'.kept fun _ _ h => h) he1)
        have hmix : Tryz.prog.follows .mixedOrders = true := by kernel_rfl
        have hin : (lo : Int) < N.length := by omega
        have hin0 : (0 : Int) ≤ lo := by omega
        have hdec : decide ((lo : Int) < (N.length : Int)) = true := decide_eq_true hin
        have HE2 : Hid (i.cmp m.id = 0 → ∃ n ∈ N, n.id = i) := Lib.hid fun h0 => ⟨m, List.mem_of_getElem? hm, (cmp_zero.1 h0).symm⟩
        clear hrow hv hc hcell hz b0 b1 hbl hzb he0 he1 hkk hm
        generalize i.cmp m.id = k at *
        go_wp2_with fail
        go_quiet_grown ((go_at_call 81; exact grown_call HC.out _ _))
        have GG := Lib.hid (HG.out.trans (G.out.trans (grew_grown nq osq)))
        clear hmix hin hin0 hdec cg0 cg1 cg2
        go_wp2_with fail
        go_ret2
        exact search_done HCN.out GG.out (fun h => HE2.out (by simpa using h))
      · have hdec : decide ((lo : Int) < (N.length : Int)) = false := decide_eq_false (by omega)
        have hmix : Tryz.prog.follows .mixedOrders = true := by kernel_rfl
        go_wp2_with fail
        go_quiet (fail)
        have GG := Lib.hid (HG.out.trans (G.out.drewN nq))
        clear hmix hdec
        go_wp2_with fail
        go_ret2
        exact search_done HCN.out GG.out (fun h => by simp at h)
end Go.Proofs.YtlafodnaifghcaaGreat.Tr
