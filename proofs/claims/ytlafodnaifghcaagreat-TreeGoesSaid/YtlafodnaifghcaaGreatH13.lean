/- Find, by a range over all. At, by a range over shown. -/
import Derived.Test.YtlafodnaifghcaaGreatH6
import Derived.Test.YtlafodnaifghcaaGreatH8
import Derived.Test.YtlafodnaifghcaaGreatH10
namespace Go.Proofs.YtlafodnaifghcaaGreat.Tr
open Go.RowKit Go.Proofs.YtlafodnaifghcaaGreat.St Go.Shelf
attribute [local go_sem] Oper.semAt_some
/-- how many shown elements stand ahead of an element, and its state -/
def findP (L : List Nd) (i : ID) : Int × Int := match L.findIdx? (fun n => decide (n.id = i)) with
  | some k => ((((L.take k).filter fun n => decide (n.st = 1)).length : Int), (L[k]?.map Nd.st).getD 0)
  | none => (0, 0)
theorem findP_at {L : List Nd} {i : Nat} {m : Nd} {x : ID} (hm : L[i]? = some m) (hid : m.id = x) (hne : ∀ m ∈ L.take i, m.id ≠ x) : findP L x = ((((L.take i).filter fun n => decide (n.st = 1)).length : Int), m.st) := by
  have hi := (List.getElem?_eq_some_iff.1 hm).1
  have h1 : L.findIdx? (fun n => decide (n.id = x)) = some i := by
    rw [List.findIdx?_eq_some_iff_getElem]
    refine ⟨hi, by rw [(List.getElem?_eq_some_iff.1 hm).2]; simpa using hid, fun j hj => ?_⟩
    have := hne L[j] (List.mem_take_iff_getElem.2 ⟨j, by omega, rfl⟩)
    simpa using this
  unfold findP
  rw [h1]
  simp [hm]
theorem findP_no {L : List Nd} {x : ID} (hne : ∀ m ∈ L, m.id ≠ x) : findP L x = (0, 0) := by
  have h1 : L.findIdx? (fun n => decide (n.id = x)) = none := by
    rw [List.findIdx?_eq_none_iff]
    intro m hm
    simpa using hne m hm
  unfold findP
  rw [h1]
def findB (z g : Nat) (t s k a b : Int) : List Box :=
  [(z, 37, #[.int .i64 t, .int .i64 s]), (z + 1, 3, #[.int .i64 a]), (z + 1 + 1, 3, #[.int .i64 b]), (z + 1 + 1 + 1, 3, #[.int .i64 k]), (z + 1 + 1 + 1 + 1, 25, #[.pointer (some ⟨g, 0, none⟩)])]
def shownN (L : List Nd) : Int := ((L.filter fun n => decide (n.st = 1)).length : Int)
theorem shown_snoc (A : List Nd) (m : Nd) : shownN (A ++ [m]) = shownN A + if m.st = 1 then 1 else 0 := by
  unfold shownN
  rw [List.filter_append, List.length_append]
  by_cases h : m.st = 1
  · simp [h]
  · simp [h]
theorem shown_le (A : List Nd) : 0 ≤ shownN A ∧ shownN A ≤ A.length := by
  unfold shownN
  exact ⟨by omega, by have := List.length_filter_le (fun n : Nd => decide (n.st = 1)) A; omega⟩
theorem findB_nodup (z g : Nat) (t s k a b : Int) : ((findB z g t s k a b).map (·.1)).Nodup := by
  simp [findB]
  omega
def findJ (w : World) (B g : Nat) (t s : Int) (L : List Nd) (A : ID → Nat) (S : ID → Rw) (mp : Option Nat) (i : Nat) (X : Nat → Prop) (W : World) : Prop :=
  CJ w B (fun _ => False) (findB w.heap.size g t s (shownN (L.take i)) 0 0) g L A S mp X W ∧ ∀ m ∈ L.take i, m.id ≠ ⟨t, s⟩
def findX (w : World) (B g : Nat) (t s : Int) (L : List Nd) (A : ID → Nat) (S : ID → Rw) (mp : Option Nat) (c : Code) (X : Nat → Prop) (W : World) : Prop :=
  c = .ret ∧ ∃ k, CJ w B (fun _ => False) (findB w.heap.size g t s k (findP L ⟨t, s⟩).1 (findP L ⟨t, s⟩).2) g L A S mp X W
set_option maxHeartbeats 8000000 in
theorem find_any {w : World} {g : Nat} {L : List Nd} {A : ID → Nat} {S : ID → Rw} {mp : Option Nat} (h : TAt w g L A S mp) (hdoc : Doc L) (hlen : L.length ≤ 900000) (i : ID) :
    Calls Tryz.prog 25 #[.pointer (some ⟨g, 0, none⟩), idV i] w fun e w' => e = .returned (.tuple #[.int .i64 (findP L i).1, .int .i64 (findP L i).2]) ∧ Kept (fun _ => False) w w' := by
  obtain ⟨t, s⟩ := i
  show Calls _ _ #[_, .agg #[.int .i64 t, .int .i64 s]] _ _
  refine (callsIn_wide (n := 6)).1 ?_
  refine callsIn_of_wp_marks Tryz.func25 rfl trivial ?_ rfl
  simp only [Tryz.ntmps25, List.size_toArray, List.length_cons, List.length_nil, Nat.reduceAdd, Nat.reduceSub, Array.replicate_succ, Array.replicate_zero, List.push_toArray, List.append_toArray, List.nil_append, List.cons_append]
  gi_wp2_with (refine ⟨trivial, ?_⟩; gi_at_call 63; refine (callsIn_wide.2 (all_any g _)).mono ?_; rintro e w' ⟨rfl, rfl⟩)
  obtain ⟨W0, hW0⟩ : ∃ W0, (((((w.alloc (.cells #[.int .i64 t, .int .i64 s] 37)).alloc (.cells #[.int .i64 0] 3)).alloc (.cells #[.int .i64 0] 3)).alloc (.cells #[.int .i64 0] 3)).alloc (.cells #[.pointer (some ⟨g, 0, none⟩)] 25)) = W0 := ⟨_, rfl⟩
  have hC : CJ w W0.heap.size (fun _ => False) (findB w.heap.size g t s 0 0 0) g L A S mp (fun _ => False) W0 := by
    rw [← hW0]
    have h9 := (((((CJ.start (M := fun _ => False) h).boxed #[.int .i64 t, .int .i64 s] 37).boxed #[.int .i64 0] 3).boxed #[.int .i64 0] 3).boxed #[.int .i64 0] 3).boxed #[.pointer (some ⟨g, 0, none⟩)] 25
    simp only [World.size_alloc] at h9 ⊢
    exact h9
  rw [hW0]
  clear hW0
  refine wpIn_iter rfl (by decide) (gf := 95) (lb := #[.pointer (some ⟨w.heap.size + 1 + 1 + 1 + 1, 0, none⟩)]) rfl trivial (enters_of Tryz.func95 (by kernel_rfl) rfl) (all1_iter (A := A) (S := S) (g := g) trivial rfl (by decide) hdoc hlen) (fun _ _ => rfl) W0.heap.size rfl (findJ w W0.heap.size g t s L A S mp) (findX w W0.heap.size g t s L A S mp) ?hrd ?hgr ?hgx ?hob ?hox ?h0 ?round ?done ?stop
  case hrd => intro i X W hJ; exact ⟨hJ.1.cell 4 rfl 0 rfl, hJ.1.tree.shape⟩
  case hgr => intro i X W W' hJ hk; exact ⟨hJ.1.grow hk, hJ.2⟩
  case hgx => rintro c X W W' ⟨hc, k, hJ⟩ hk; exact ⟨hc, k, hJ.grow hk⟩
  case hob => intro i X W o' hJ; exact ⟨hJ.1.put (Nat.le_succ _) o', hJ.2⟩
  case hox => rintro c X W o' ⟨hc, k, hJ⟩; exact ⟨hc, k, hJ.put (Nat.le_succ _) o'⟩
  case h0 => intro o1 o2; exact ⟨(hC.alloc o1).alloc o2, fun m hm => by simp at hm⟩
  case round =>
    intro i W K hi hK
    have hm := nth_lt hi
    unfold allEnc
    generalize nth L i = m at hm ⊢
    gi_wp2
    rintro X W h2 ⟨hJ, hne⟩
    have H2 := Lib.hid h2
    have HJ := Lib.hid hJ
    have HN := Lib.hid hne
    have HM := Lib.hid hm
    have he := hJ.tree.elt m (List.mem_of_getElem? hm)
    have e0 : W.cell? ⟨A m.id, 0, none⟩ = some (.int .i64 m.id.t) := he.cell' rfl
    have e1 : W.cell? ⟨A m.id, 1, none⟩ = some (.int .i64 m.id.s) := he.cell' rfl
    have e5 : W.cell? ⟨A m.id, 5, none⟩ = some (.int .i64 m.st) := he.cell' rfl
    have c0 : W.cell? ⟨w.heap.size, 0, none⟩ = some (.int .i64 t) := hJ.cell 0 rfl 0 rfl
    have c1 : W.cell? ⟨w.heap.size, 1, none⟩ = some (.int .i64 s) := hJ.cell 0 rfl 1 rfl
    have c3 : W.cell? ⟨w.heap.size + 1 + 1 + 1, 0, none⟩ = some (.int .i64 (shownN (L.take i))) := hJ.cell 3 rfl 0 rfl
    have ca : W.cell? ⟨w.heap.size + 1, 0, none⟩ = some (.int .i64 0) := hJ.cell 1 rfl 0 rfl
    have cb : W.cell? ⟨w.heap.size + 1 + 1, 0, none⟩ = some (.int .i64 0) := hJ.cell 2 rfl 0 rfl
    have f1 := hJ.frozen 1 rfl 0
    have f2 := hJ.frozen 2 rfl 0
    have f3 := hJ.frozen 3 rfl 0
    have hl := hJ.low (A m.id) (.inr (.inr (.inl ⟨m.id, List.mem_map.2 ⟨m, List.mem_of_getElem? hm, rfl⟩, rfl⟩)))
    have n1 : ¬ A m.id = w.heap.size + 1 := by omega
    have n2 : ¬ A m.id = w.heap.size + 1 + 1 := by omega
    have n3 : ¬ A m.id = w.heap.size + 1 + 1 + 1 := by omega
    have n4 : ¬ w.heap.size + 1 = A m.id := by omega
    have n5 : ¬ w.heap.size + 1 + 1 = A m.id := by omega
    have n6 : ¬ w.heap.size + 1 + 1 + 1 = A m.id := by omega
    clear h2 hJ hne hm he hl
    by_cases hid : m.id = ⟨t, s⟩
    · have q1 : m.id.t = t := by rw [hid]
      have q2 : m.id.s = s := by rw [hid]
      rw [q1] at e0
      rw [q2] at e1
      clear hid
      gi_wp2
      refine region_cut (fun W' => W' = W.drew) ?_
      apply Exists.intro
      refine ⟨?reg, ?rest⟩
      case reg =>
        gi_region
        all_goals exact ⟨rfl, rfl, rfl⟩
      case rest =>
        rintro W' rfl
        gi_wp2
        refine region_cut (fun W' => W' = ((W.setCell ⟨w.heap.size + 1, 0, none⟩ (.int .i64 (shownN (L.take i)))).setCell ⟨w.heap.size + 1 + 1, 0, none⟩ (.int .i64 m.st)).drew.drew) ?_
        apply Exists.intro
        refine ⟨?reg, ?rest⟩
        case reg =>
          gi_region
          all_goals exact ⟨rfl, rfl, rfl⟩
        case rest =>
          rintro W' rfl
          gi_wp2
          have hid : m.id = ⟨t, s⟩ := ID.ext q1 q2
          have hf := findP_at HM.out hid HN.out
          have hC := (((HJ.out.set 1 (.int .i64 (shownN (L.take i))) rfl (findB_nodup ..)).set 2 (.int .i64 m.st) rfl (by exact findB_nodup ..)).drew).drew
          have ho := HJ.out.off H2.out (Y := fun b => b = w.heap.size + 1 ∨ b = w.heap.size + 1 + 1) (((((Kept.refl _ _).setCell (p := ⟨w.heap.size + 1, 0, none⟩) (fun _ => .inl rfl) (.int .i64 (shownN (L.take i)))).setCell (p := ⟨w.heap.size + 1 + 1, 0, none⟩) (fun _ => .inr rfl) (.int .i64 m.st)).drew).drew) (by have := (HJ.out.box _ (List.mem_of_getElem? (i := 4) rfl)).1.2; intro b hb; have h9 : w.heap.size + 1 + 1 + 1 + 1 < W0.heap.size := this; omega)
          exact ⟨ho.1, ho.2, rfl, shownN (L.take i), by rw [hf]; exact hC⟩
    · have hq : ¬ m.id.t = t ∨ (m.id.t = t ∧ ¬ m.id.s = s) := by
        by_cases q1 : m.id.t = t
        · exact .inr ⟨q1, fun q2 => hid (ID.ext q1 q2)⟩
        · exact .inl q1
      have HI := Lib.hid hid
      have hsl := shown_le (L.take i)
      have hlb : ((L.take i).length : Int) ≤ 900000 := by have := List.length_take_le i L; have := hlen; omega
      have hs1 : 0 ≤ shownN (L.take i) := hsl.1
      have hs2 : shownN (L.take i) ≤ 900000 := by omega
      have ho := HJ.out.off H2.out (Y := fun b => b = w.heap.size + 1 + 1 + 1) (W' := W.drew) ((Kept.refl _ _).drew) (by have := (HJ.out.box _ (List.mem_of_getElem? (i := 4) rfl)).1.2; intro b hb; have h9 : w.heap.size + 1 + 1 + 1 + 1 < W0.heap.size := this; omega)
      have HO := Lib.hid ho
      clear hid hsl hlb ho
      rcases hq with q1 | ⟨q1, q2⟩
      case' inr => rw [q1] at e0
      all_goals
        gi_wp2
        refine region_cut (fun W' => W' = W.drew) ?_
        apply Exists.intro
        refine ⟨?_, ?_⟩
        focus
          gi_region
          all_goals exact ⟨rfl, rfl, rfl⟩
        rintro W' rfl
        have htk : L.take (i + 1) = L.take i ++ [m] := by rw [List.take_add_one, HM.out]; rfl
        have hnn : ∀ y ∈ L.take (i + 1), y.id ≠ ⟨t, s⟩ := by
          rw [htk]
          intro y hy
          rcases List.mem_append.1 hy with hy | hy
          · exact HN.out y hy
          · rw [List.mem_singleton.1 hy]; exact HI.out
        by_cases q5 : m.st = 1
        · have hn1 : shownN (L.take (i + 1)) = shownN (L.take i) + 1 := by rw [htk, shown_snoc, if_pos q5]
          have HN2 := Lib.hid hn1
          have HNN := Lib.hid hnn
          clear htk hnn hn1
          gi_wp2
          have ho := HJ.out.off H2.out (Y := fun b => b = w.heap.size + 1 + 1 + 1) (kept_cell W (w.heap.size + 1 + 1 + 1) (.int .i64 (shownN (L.take i) + 1))).drew (by have := (HJ.out.box _ (List.mem_of_getElem? (i := 4) rfl)).1.2; intro b hb; have h9 : w.heap.size + 1 + 1 + 1 + 1 < W0.heap.size := this; omega)
          refine ⟨ho.1, ho.2, ?_, HNN.out⟩
          rw [HN2.out]
          exact (HJ.out.set 3 (.int .i64 (shownN (L.take i) + 1)) rfl (findB_nodup ..)).drew
        · have hn1 : shownN (L.take (i + 1)) = shownN (L.take i) := by rw [htk, shown_snoc, if_neg q5, Int.add_zero]
          have HN2 := Lib.hid hn1
          have HNN := Lib.hid hnn
          clear htk hnn hn1
          gi_wp2
          refine ⟨HO.out.1, HO.out.2, ?_, HNN.out⟩
          rw [HN2.out]
          exact HJ.out.drew
  case done =>
    rintro X W ⟨hJ, hne⟩ hK
    rw [List.take_length] at hJ hne
    have hf := findP_no hne
    have HF := Lib.hid hf
    have HJ := Lib.hid hJ
    have HK := Lib.hid hK
    have c1 : W.cell? ⟨w.heap.size + 1, 0, none⟩ = some (.int .i64 0) := hJ.cell 1 rfl 0 rfl
    have c2 : W.cell? ⟨w.heap.size + 1 + 1, 0, none⟩ = some (.int .i64 0) := hJ.cell 2 rfl 0 rfl
    have f1 := hJ.frozen 1 rfl 0
    have f2 := hJ.frozen 2 rfl 0
    clear hJ hne hf hK
    gi_wp2
    have hC := (HJ.out.set 1 (.int .i64 0) rfl (findB_nodup ..)).set 2 (.int .i64 0) rfl (by exact findB_nodup ..)
    have hC2 := hC.taken (.deferred none)
    have hk : Kept (fun b => b = w.heap.size + 1 ∨ b = w.heap.size + 1 + 1) W ((W.setCell ⟨w.heap.size + 1, 0, none⟩ (.int .i64 0)).setCell ⟨w.heap.size + 1 + 1, 0, none⟩ (.int .i64 0)) := ((Kept.refl _ _).setCell (p := ⟨w.heap.size + 1, 0, none⟩) (fun _ => .inl rfl) _).setCell (p := ⟨w.heap.size + 1 + 1, 0, none⟩) (fun _ => .inr rfl) _
    have hl := (HJ.out.box _ (List.mem_of_getElem? (i := 4) rfl)).1.2
    have h9 : w.heap.size + 1 + 1 + 1 + 1 < W0.heap.size := hl
    refine ret_range (v := .tuple #[.int .i64 (findP L ⟨t, s⟩).1, .int .i64 (findP L ⟨t, s⟩).2]) ((hk.block _ (by have := (Array.getElem?_eq_some_iff.1 HK.out).1; exact this) (by omega)).trans HK.out) ?_ ⟨rfl, hC2.kept⟩
    have d1 := hC2.cell 1 rfl 0 rfl
    have d2 := hC2.cell 2 rfl 0 rfl
    rw [HF.out]
    simp [results, Tryz.results25, go_sem, d1, d2]
  case stop =>
    rintro c X W ⟨rfl, k, hJ⟩ hK
    have HJ := Lib.hid hJ
    have HK := Lib.hid hK
    clear hJ hK
    gi_wp2
    have hC2 := HJ.out.taken (.deferred none)
    refine ret_range (v := .tuple #[.int .i64 (findP L ⟨t, s⟩).1, .int .i64 (findP L ⟨t, s⟩).2]) HK.out ?_ ⟨rfl, hC2.kept⟩
    have d1 := hC2.cell 1 rfl 0 rfl
    have d2 := hC2.cell 2 rfl 0 rfl
    simp [results, Tryz.results25, go_sem, d1, d2]
end Go.Proofs.YtlafodnaifghcaaGreat.Tr
namespace Go.Proofs.YtlafodnaifghcaaGreat.Tr
open Go.RowKit Go.Proofs.YtlafodnaifghcaaGreat.St Go.Shelf
attribute [local go_sem] Oper.semAt_some
def atP (L : List Nd) (i : Int) : ID × Int := if 0 ≤ i ∧ i < (shL L).length then ((nth (shL L) i.toNat).id, 0) else (ID.zero, 3)
def atB (z g : Nat) (i t s k : Int) : List Box :=
  [(z, 3, #[.int .i64 i]), (z + 1, 37, #[.int .i64 t, .int .i64 s]), (z + 1 + 1, 46, #[.int .i64 k]), (z + 1 + 1 + 1, 25, #[.pointer (some ⟨g, 0, none⟩)])]
theorem atB_nodup (z g : Nat) (i t s k : Int) : ((atB z g i t s k).map (·.1)).Nodup := by
  simp [atB]
  omega
def atJ (w : World) (B g : Nat) (ix : Int) (L : List Nd) (A : ID → Nat) (S : ID → Rw) (mp : Option Nat) (i : Nat) (X : Nat → Prop) (W : World) : Prop :=
  CJ w B (fun _ => False) (atB w.heap.size g ix 0 0 0) g L A S mp X W ∧ ∀ k : Nat, k < i → (k : Int) ≠ ix
def atX (w : World) (B g : Nat) (ix : Int) (L : List Nd) (A : ID → Nat) (S : ID → Rw) (mp : Option Nat) (c : Code) (X : Nat → Prop) (W : World) : Prop :=
  c = .ret ∧ CJ w B (fun _ => False) (atB w.heap.size g ix (atP L ix).1.t (atP L ix).1.s (atP L ix).2) g L A S mp X W
set_option maxHeartbeats 8000000 in
theorem at_any {w : World} {g : Nat} {L : List Nd} {A : ID → Nat} {S : ID → Rw} {mp : Option Nat} (h : TAt w g L A S mp) (hdoc : Doc L) (hlen : L.length ≤ 900000) (ix : Int) :
    Calls Tryz.prog 22 #[.pointer (some ⟨g, 0, none⟩), .int .i64 ix] w fun e w' => e = .returned (.tuple #[.agg #[.int .i64 (atP L ix).1.t, .int .i64 (atP L ix).1.s], .int .i64 (atP L ix).2]) ∧ Kept (fun _ => False) w w' := by
  refine (callsIn_wide (n := 6)).1 ?_
  refine callsIn_of_wp_marks Tryz.func22 rfl trivial ?_ rfl
  simp only [Tryz.ntmps22, List.size_toArray, List.length_cons, List.length_nil, Nat.reduceAdd, Nat.reduceSub, Array.replicate_succ, Array.replicate_zero, List.push_toArray, List.append_toArray, List.nil_append, List.cons_append]
  gi_wp2_with (refine ⟨trivial, ?_⟩; gi_at_call 51; refine (callsIn_wide.2 (shown_any g _)).mono ?_; rintro e w' ⟨rfl, rfl⟩)
  obtain ⟨W0, hW0⟩ : ∃ W0, ((((w.alloc (.cells #[.int .i64 ix] 3)).alloc (.cells #[.int .i64 0, .int .i64 0] 37)).alloc (.cells #[.int .i64 0] 46)).alloc (.cells #[.pointer (some ⟨g, 0, none⟩)] 25)) = W0 := ⟨_, rfl⟩
  have hC : CJ w W0.heap.size (fun _ => False) (atB w.heap.size g ix 0 0 0) g L A S mp (fun _ => False) W0 := by
    rw [← hW0]
    have h9 := ((((CJ.start (M := fun _ => False) h).boxed #[.int .i64 ix] 3).boxed #[.int .i64 0, .int .i64 0] 37).boxed #[.int .i64 0] 46).boxed #[.pointer (some ⟨g, 0, none⟩)] 25
    simp only [World.size_alloc] at h9 ⊢
    exact h9
  rw [hW0]
  clear hW0
  refine wpIn_iter rfl (by decide) (gf := 85) (lb := #[.pointer (some ⟨w.heap.size + 1 + 1 + 1, 0, none⟩)]) rfl trivial (enters_of Tryz.func85 (by kernel_rfl) rfl) (shown1_iter (A := A) (S := S) (g := g) (mp := mp) hdoc hlen) (fun _ _ => rfl) W0.heap.size rfl (atJ w W0.heap.size g ix L A S mp) (atX w W0.heap.size g ix L A S mp) ?hrd ?hgr ?hgx ?hob ?hox ?h0 ?round ?done ?stop
  case hrd => intro i X W hJ; exact ⟨hJ.1.cell 3 rfl 0 rfl, hJ.1.tree⟩
  case hgr => intro i X W W' hJ hk; exact ⟨CJ.grow hJ.1 hk, hJ.2⟩
  case hgx => intro c X W W' h hk; exact ⟨h.1, CJ.grow h.2 hk⟩
  case hob => intro i X W o' hJ; exact ⟨CJ.put hJ.1 (Nat.le_succ _) o', hJ.2⟩
  case hox => intro c X W o' h; exact ⟨h.1, CJ.put h.2 (Nat.le_succ _) o'⟩
  case h0 => intro o1 o2; exact ⟨(hC.alloc o1).alloc o2, fun k hk => absurd hk (Nat.not_lt_zero _)⟩
  case round =>
    intro i W K hi hK
    have hm := nth_lt hi
    unfold shEnc
    have hat : (i : Int) = ix → atP L ix = ((nth (shL L) i).id, 0) := fun e => by
      unfold atP
      rw [if_pos ⟨by omega, by omega⟩, show ix.toNat = i by omega]
    have HAT := Lib.hid hat
    clear hat
    generalize nth (shL L) i = m at *
    gi_wp2
    rintro X W h2 hJ0
    obtain ⟨hJ, hne⟩ : CJ w W0.heap.size (fun _ => False) (atB w.heap.size g ix 0 0 0) g L A S mp X W ∧ ∀ k : Nat, k < i → (k : Int) ≠ ix := hJ0
    have hmL : m ∈ L := (List.mem_filter.1 (List.mem_of_getElem? hm)).1
    have he := hJ.tree.elt m hmL
    have e0 : W.cell? ⟨A m.id, 0, none⟩ = some (.int .i64 m.id.t) := he.cell' rfl
    have e1 : W.cell? ⟨A m.id, 1, none⟩ = some (.int .i64 m.id.s) := he.cell' rfl
    have c0 : W.cell? ⟨w.heap.size, 0, none⟩ = some (.int .i64 ix) := hJ.cell 0 rfl 0 rfl
    have c1 : W.cell? ⟨w.heap.size + 1, 0, none⟩ = some (.int .i64 0) := hJ.cell 1 rfl 0 rfl
    have c2 : W.cell? ⟨w.heap.size + 1, 1, none⟩ = some (.int .i64 0) := hJ.cell 1 rfl 1 rfl
    have c3 : W.cell? ⟨w.heap.size + 1 + 1, 0, none⟩ = some (.int .i64 0) := hJ.cell 2 rfl 0 rfl
    have f1 := hJ.frozen 1 rfl 0
    have f2 := hJ.frozen 1 rfl 1
    have f3 := hJ.frozen 2 rfl 0
    have HJ := Lib.hid hJ
    have H2 := Lib.hid h2
    have HN := Lib.hid hne
    clear hJ h2 hne hm hmL he
    by_cases q : (i : Int) = ix
    · have hP := HAT.out q
      have HP := Lib.hid hP
      have q1 : ((i : Int) == ix) = true := by simpa using q
      clear q hP
      gi_wp2
      have hl : w.heap.size + 1 + 1 + 1 < W0.heap.size := (HJ.out.box _ (List.mem_of_getElem? (i := 3) rfl)).1.2
      have hk : Kept (fun b => b = w.heap.size + 1 ∨ b = w.heap.size + 1 + 1) W (((W.setCell ⟨w.heap.size + 1, 0, none⟩ (.int .i64 m.id.t)).setCell ⟨w.heap.size + 1, 1, none⟩ (.int .i64 m.id.s)).setCell ⟨w.heap.size + 1 + 1, 0, none⟩ (.int .i64 0)) :=
        (((Kept.refl _ _).setCell (p := ⟨w.heap.size + 1, 0, none⟩) (fun _ => .inl rfl) _).setCell (p := ⟨w.heap.size + 1, 1, none⟩) (fun _ => .inl rfl) _).setCell (p := ⟨w.heap.size + 1 + 1, 0, none⟩) (fun _ => .inr rfl) _
      have ho := HJ.out.off H2.out hk (fun b hb => by omega)
      refine ⟨ho.1, ho.2, rfl, ?_⟩
      rw [HP.out]
      exact ((HJ.out.seti 1 0 (.int .i64 m.id.t) rfl (atB_nodup ..)).seti 1 1 (.int .i64 m.id.s) rfl (by exact atB_nodup ..)).set 2 (.int .i64 0) rfl (by exact atB_nodup ..)
    · have q1 : ((i : Int) == ix) = false := by simpa using q
      have Q := Lib.hid q
      clear q
      gi_wp2
      refine ⟨fun _ _ => rfl, Nat.le_refl _, HJ.out, fun k hk => ?_⟩
      rcases Nat.lt_succ_iff_lt_or_eq.1 hk with hk | rfl
      · exact HN.out k hk
      · exact Q.out
  case done =>
    rintro X W hJ0 hK
    obtain ⟨hJ, hne⟩ : CJ w W0.heap.size (fun _ => False) (atB w.heap.size g ix 0 0 0) g L A S mp X W ∧ ∀ k : Nat, k < (shL L).length → (k : Int) ≠ ix := hJ0
    have hP : atP L ix = (ID.zero, 3) := by
      unfold atP
      rw [if_neg]
      intro h
      exact hne ix.toNat (by omega) (by omega)
    have HP := Lib.hid hP
    have HJ := Lib.hid hJ
    have HK := Lib.hid hK
    have c1 : W.cell? ⟨w.heap.size + 1, 0, none⟩ = some (.int .i64 0) := hJ.cell 1 rfl 0 rfl
    have c2 : W.cell? ⟨w.heap.size + 1, 1, none⟩ = some (.int .i64 0) := hJ.cell 1 rfl 1 rfl
    have c3 : W.cell? ⟨w.heap.size + 1 + 1, 0, none⟩ = some (.int .i64 0) := hJ.cell 2 rfl 0 rfl
    have f1 := hJ.frozen 1 rfl 0
    have f2 := hJ.frozen 1 rfl 1
    have f3 := hJ.frozen 2 rfl 0
    clear hJ hne hP hK
    gi_wp2
    have hl : w.heap.size + 1 + 1 + 1 < W0.heap.size := (HJ.out.box _ (List.mem_of_getElem? (i := 3) rfl)).1.2
    have hk : Kept (fun b => b = w.heap.size + 1 ∨ b = w.heap.size + 1 + 1) W (((W.setCell ⟨w.heap.size + 1, 0, none⟩ (.int .i64 0)).setCell ⟨w.heap.size + 1, 1, none⟩ (.int .i64 0)).setCell ⟨w.heap.size + 1 + 1, 0, none⟩ (.int .i64 3)) :=
      (((Kept.refl _ _).setCell (p := ⟨w.heap.size + 1, 0, none⟩) (fun _ => .inl rfl) _).setCell (p := ⟨w.heap.size + 1, 1, none⟩) (fun _ => .inl rfl) _).setCell (p := ⟨w.heap.size + 1 + 1, 0, none⟩) (fun _ => .inr rfl) _
    have hC2 := (((HJ.out.seti 1 0 (.int .i64 0) rfl (atB_nodup ..)).seti 1 1 (.int .i64 0) rfl (by exact atB_nodup ..)).set 2 (.int .i64 3) rfl (by exact atB_nodup ..)).taken (.deferred none)
    refine ret_range (v := .tuple #[.agg #[.int .i64 (atP L ix).1.t, .int .i64 (atP L ix).1.s], .int .i64 (atP L ix).2]) ((hk.block _ (by have := (Array.getElem?_eq_some_iff.1 HK.out).1; exact this) (by omega)).trans HK.out) ?_ ⟨rfl, hC2.kept⟩
    have d1 := hC2.cell 1 rfl 0 rfl
    have d2 := hC2.cell 1 rfl 1 rfl
    have d3 := hC2.cell 2 rfl 0 rfl
    rw [HP.out]
    simp [results, Tryz.results22, go_sem, d1, d2, d3, ID.zero]
  case stop =>
    rintro c X W ⟨rfl, hJ⟩ hK
    have HJ := Lib.hid hJ
    have HK := Lib.hid hK
    clear hJ hK
    gi_wp2
    have hC2 := HJ.out.taken (.deferred none)
    refine ret_range (v := .tuple #[.agg #[.int .i64 (atP L ix).1.t, .int .i64 (atP L ix).1.s], .int .i64 (atP L ix).2]) HK.out ?_ ⟨rfl, hC2.kept⟩
    have d1 := hC2.cell 1 rfl 0 rfl
    have d2 := hC2.cell 1 rfl 1 rfl
    have d3 := hC2.cell 2 rfl 0 rfl
    simp [results, Tryz.results22, go_sem, d1, d2, d3]
end Go.Proofs.YtlafodnaifghcaaGreat.Tr
