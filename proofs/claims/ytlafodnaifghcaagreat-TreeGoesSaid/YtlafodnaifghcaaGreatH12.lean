/- turn, by a range over all: Delete and Settle. hearsayref11: turned, Delete, Settle. -/
import Derived.Test.YtlafodnaifghcaaGreatH9
import Derived.Test.YtlafodnaifghcaaGreatH11
import Derived.Stop.RegionWithIn
namespace Go.Proofs.YtlafodnaifghcaaGreat.Tr
open Go.RowKit Go.Proofs.YtlafodnaifghcaaGreat.St Go.Shelf
attribute [local go_sem] Oper.semAt_some
def turnB (rs : List Run) (fr : Int) (n : Nd) : Bool := decide (n.st = fr) && nameL rs n.id
def turnF (rs : List Run) (fr tz : Int) (n : Nd) : Nd := if turnB rs fr n then { n with st := tz } else n
/-- those up tz a number turned -/
def turnU (rs : List Run) (fr tz : Int) (L : List Nd) (i : Nat) : List Nd := (L.take i).map (turnF rs fr tz) ++ L.drop i
def turnN (rs : List Run) (fr : Int) (L : List Nd) : Int := ((L.filter (turnB rs fr)).length : Int)
theorem turnF_key (rs : List Run) (fr tz : Int) (n : Nd) : key (turnF rs fr tz n) = key n := by unfold turnF; split <;> rfl
theorem turnU_key (rs : List Run) (fr tz : Int) (L : List Nd) (i : Nat) : (turnU rs fr tz L i).map key = L.map key := by
  unfold turnU
  rw [List.map_append, List.map_map]
  have : (L.take i).map (key ∘ turnF rs fr tz) = (L.take i).map key := List.map_congr_left fun n _ => turnF_key rs fr tz n
  rw [this, ← List.map_append, List.take_append_drop]
theorem turnU_at {rs : List Run} {fr tz : Int} {L : List Nd} {i : Nat} {m : Nd} (h : L[i]? = some m) : turnU rs fr tz L i = (L.take i).map (turnF rs fr tz) ++ m :: L.drop (i + 1) ∧ turnU rs fr tz L (i + 1) = (L.take i).map (turnF rs fr tz) ++ turnF rs fr tz m :: L.drop (i + 1) := by
  have hi := (List.getElem?_eq_some_iff.1 h).1
  have hm := (List.getElem?_eq_some_iff.1 h).2
  unfold turnU
  refine ⟨by rw [List.drop_eq_getElem_cons hi, hm], ?_⟩
  rw [List.take_add_one, h]
  simp
theorem turnN_snoc (rs : List Run) (fr : Int) (A : List Nd) (m : Nd) : turnN rs fr (A ++ [m]) = turnN rs fr A + if turnB rs fr m then 1 else 0 := by
  unfold turnN
  rw [List.filter_append, List.length_append]
  by_cases h : turnB rs fr m = true
  · simp [h]
  · simp [h]
theorem turnN_le (rs : List Run) (fr : Int) (A : List Nd) : 0 ≤ turnN rs fr A ∧ turnN rs fr A ≤ A.length := by
  unfold turnN
  exact ⟨by omega, by have := List.length_filter_le (turnB rs fr) A; omega⟩
def turnX (z g : Nat) (v : Value) (fr tz k : Int) : List Box :=
  [(z, 38, #[v]), (z + 1, 3, #[.int .i64 fr]), (z + 1 + 1, 3, #[.int .i64 tz]), (z + 1 + 1 + 1, 3, #[.int .i64 k]), (z + 1 + 1 + 1 + 1, 25, #[.pointer (some ⟨g, 0, none⟩)])]
theorem turnX_nodup (z g : Nat) (v : Value) (fr tz k : Int) : ((turnX z g v fr tz k).map (·.1)).Nodup := by
  simp [turnX]
  omega
/-- the elements' blocks -/
def eltM (L : List Nd) (A : ID → Nat) (b : Nat) : Prop := ∃ x ∈ ids L, b = A x
def turnJ (w : World) (B g : Nat) (v : Value) (rs : List Run) (fr tz : Int) (L : List Nd) (A : ID → Nat) (S : ID → Rw) (mp : Option Nat) (i : Nat) (X : Nat → Prop) (W : World) : Prop :=
  CJ w B (eltM L A) (turnX w.heap.size g v fr tz (turnN rs fr (L.take i))) g (turnU rs fr tz L i) A S mp X W
set_option maxHeartbeats 8000000 in
theorem turn_any {w : World} {g : Nat} {L : List Nd} {A : ID → Nat} {S : ID → Rw} {mp : Option Nat} (h : TAt w g L A S mp) (hdoc : Doc L) (hlen : L.length ≤ 900000) (hID : ∀ n ∈ L, 0 ≤ n.id.t ∧ n.id.t ≤ 2147483647)
    {v : Value} {rs : List Run} (hv : SlAt runE w v rs) (hin : ∀ r ∈ rs, r.In) (hrl : rs.length ≤ 1000000000) (hvb : ∀ b, v.ownBlock = some b → b < w.heap.size → ¬ eltM L A b) (fr tz : Int) :
    Calls Tryz.prog 62 #[.pointer (some ⟨g, 0, none⟩), v, .int .i64 fr, .int .i64 tz] w fun e w' => e = .returned (.int .i64 (turnN rs fr L)) ∧ TAt w' g (L.map (turnF rs fr tz)) A S mp ∧ Kept (eltM L A) w w' := by
  refine (callsIn_wide (n := 6)).1 ?_
  obtain ⟨va, vc, hvv, _, _⟩ := hv.sl
  have HVV := Lib.hid hvv
  have HV := Lib.hid hv
  have HIN := Lib.hid hin
  have HVB := Lib.hid hvb
  have HID := Lib.hid hID
  clear hvb hin hv hID
  subst hvv
  refine callsIn_of_wp_marks Tryz.func62 rfl trivial ?_ rfl
  simp only [Tryz.ntmps62, List.size_toArray, List.length_cons, List.length_nil, Nat.reduceAdd, Nat.reduceSub, Array.replicate_succ, Array.replicate_zero, List.push_toArray, List.append_toArray, List.nil_append, List.cons_append]
  gi_wp2_with (refine ⟨trivial, ?_⟩; gi_at_call 63; refine (callsIn_wide.2 (all_any g _)).mono ?_; rintro e w' ⟨rfl, rfl⟩)
  obtain ⟨W0, hW0⟩ : ∃ W0, (((((w.alloc (.cells #[.slice va rs.length vc] 38)).alloc (.cells #[.int .i64 fr] 3)).alloc (.cells #[.int .i64 tz] 3)).alloc (.cells #[.int .i64 0] 3)).alloc (.cells #[.pointer (some ⟨g, 0, none⟩)] 25)) = W0 := ⟨_, rfl⟩
  have hC : CJ w W0.heap.size (eltM L A) (turnX w.heap.size g (.slice va rs.length vc) fr tz 0) g L A S mp (fun _ => False) W0 := by
    rw [← hW0]
    have h9 := (((((CJ.start (M := eltM L A) h).boxed #[.slice va rs.length vc] 38).boxed #[.int .i64 fr] 3).boxed #[.int .i64 tz] 3).boxed #[.int .i64 0] 3).boxed #[.pointer (some ⟨g, 0, none⟩)] 25
    simp only [World.size_alloc] at h9 ⊢
    exact h9
  rw [hW0]
  clear hW0
  refine wpIn_iter rfl (by decide) (gf := 95) (lb := #[.pointer (some ⟨w.heap.size + 1 + 1 + 1 + 1, 0, none⟩)]) rfl trivial (enters_of Tryz.func95 (by kernel_rfl) rfl) (all1_iter (A := A) (S := S) (g := g) trivial rfl (by decide) hdoc hlen) (fun _ _ => rfl) W0.heap.size rfl (turnJ w W0.heap.size g (.slice va rs.length vc) rs fr tz L A S mp) (fun _ _ _ => False) ?hrd ?hgr ?hgx ?hob ?hox ?h0 ?round ?done ?stop
  case hrd => intro i X W hJ; exact ⟨hJ.cell 4 rfl 0 rfl, hJ.tree.shape.key (turnU_key rs fr tz L i).symm⟩
  case hgr => intro i X W W' hJ hk; exact hJ.grow hk
  case hgx => intro c X W W' h _; exact h
  case hob => intro i X W o' hJ; exact hJ.put (Nat.le_succ _) o'
  case hox => intro c X W o' hJ; exact hJ
  case h0 => intro o1 o2; exact (hC.alloc o1).alloc o2
  case round =>
    intro i W K hi hK
    have hm := nth_lt hi
    unfold allEnc
    generalize nth L i = m at hm ⊢
    gi_wp2
    rintro X W h2 hJ0
    have hJ : CJ w W0.heap.size (eltM L A) (turnX w.heap.size g (.slice va rs.length vc) fr tz (turnN rs fr (L.take i))) g (turnU rs fr tz L i) A S mp X W := hJ0
    obtain ⟨u1, u2⟩ := turnU_at (rs := rs) (fr := fr) (tz := tz) hm
    have hmU : m ∈ turnU rs fr tz L i := by rw [u1]; simp
    have hmL := List.mem_of_getElem? hm
    have he := hJ.tree.elt m hmU
    have e0 : W.cell? ⟨A m.id, 0, none⟩ = some (.int .i64 m.id.t) := he.cell' rfl
    have e1 : W.cell? ⟨A m.id, 1, none⟩ = some (.int .i64 m.id.s) := he.cell' rfl
    have e5 : W.cell? ⟨A m.id, 5, none⟩ = some (.int .i64 m.st) := he.cell' rfl
    have fe := he.frozen 5
    have c0 : W.cell? ⟨w.heap.size, 0, none⟩ = some (.slice va rs.length vc) := hJ.cell 0 rfl 0 rfl
    have c1 : W.cell? ⟨w.heap.size + 1, 0, none⟩ = some (.int .i64 fr) := hJ.cell 1 rfl 0 rfl
    have c2 : W.cell? ⟨w.heap.size + 1 + 1, 0, none⟩ = some (.int .i64 tz) := hJ.cell 2 rfl 0 rfl
    have c3 : W.cell? ⟨w.heap.size + 1 + 1 + 1, 0, none⟩ = some (.int .i64 (turnN rs fr (L.take i))) := hJ.cell 3 rfl 0 rfl
    have f3 := hJ.frozen 3 rfl 0
    have hl := hJ.low (A m.id) (.inr (.inr (.inl ⟨m.id, List.mem_map.2 ⟨m, hmU, rfl⟩, rfl⟩)))
    have n1 : ¬ A m.id = w.heap.size := by omega
    have n2 : ¬ A m.id = w.heap.size + 1 := by omega
    have n3 : ¬ A m.id = w.heap.size + 1 + 1 := by omega
    have n4 : ¬ A m.id = w.heap.size + 1 + 1 + 1 := by omega
    have n5 : ¬ w.heap.size = A m.id := by omega
    have n6 : ¬ w.heap.size + 1 = A m.id := by omega
    have n7 : ¬ w.heap.size + 1 + 1 = A m.id := by omega
    have n8 : ¬ w.heap.size + 1 + 1 + 1 = A m.id := by omega
    have hsl := turnN_le rs fr (L.take i)
    have hlb : ((L.take i).length : Int) ≤ 900000 := by have := List.length_take_le i L; have := hlen; omega
    have hs1 : 0 ≤ turnN rs fr (L.take i) := hsl.1
    have hs2 : turnN rs fr (L.take i) ≤ 900000 := by omega
    have hvW : SlAt runE W (.slice va rs.length vc) rs := HV.out.keep hJ.kept HVB.out
    have HVW := Lib.hid hvW
    have H2 := Lib.hid h2
    have HJ := Lib.hid hJ
    have HM := Lib.hid hm
    have U1 := Lib.hid u1
    have U2 := Lib.hid u2
    have HID := Lib.hid (HID.out m hmL)
    clear h2 hJ0 hJ hm u1 u2 hmU hmL he hl hsl hlb hvW
    have HN : Hid (∀ W' : World, Kept (fun _ => False) W W' → Calls Tryz.prog 94 #[.slice va rs.length vc, .agg #[.int .i64 m.id.t, .int .i64 m.id.s]] W' fun e w' => e = .returned (.bool (nameL rs m.id)) ∧ Grew W' w') := Lib.hid fun W' hk => named_any (HVW.out.kept hk) HIN.out hrl m.id HID.out
    by_cases q5 : m.st = fr
    · have tb : turnB rs fr m = nameL rs m.id := by unfold turnB; rw [decide_eq_true q5, Bool.true_and]
      have TB := Lib.hid tb
      rw [q5] at e5
      clear tb
      generalize nameL rs m.id = bb at *
      gi_wp2
      refine region_cut (fun W' => Grew W W') ?_
      apply Exists.intro
      refine ⟨?_, ?_⟩
      focus
        gi_region_with ((refine ⟨trivial, ?_⟩; gi_at_call 94; refine (CallsIn.inRound _ (callsIn_wide.2 (HN.out _ (by first | exact (Kept.refl _ _).drew | exact Kept.refl _ _)))).mono ?_; rintro e w' ⟨rfl, hg⟩))
        all_goals exact ⟨rfl, rfl, ((Grew.refl W).drew).trans hg⟩
      rintro W' hg
      have hJ' := HJ.out.grew hg.kept
      have d2 := cell_keep hg.kept c2
      have d3 := cell_keep hg.kept c3
      have d5 := cell_keep hg.kept e5
      have g3 := hJ'.frozen 3 rfl 0
      have g5 : W'.frozen? ⟨A m.id, 5, none⟩ = false := (hJ'.tree.elt m (by rw [U1.out]; simp)).frozen 5
      have HJ' := Lib.hid hJ'
      have HG := Lib.hid hg
      have hB9 : Hid (w.heap.size + 1 + 1 + 1 + 1 < W0.heap.size ∧ A m.id < w.heap.size) := Lib.hid ⟨(HJ.out.box _ (List.mem_of_getElem? (i := 4) rfl)).1.2, HJ.out.low _ (.inr (.inr (.inl ⟨m.id, List.mem_map.2 ⟨m, by rw [U1.out]; simp, rfl⟩, rfl⟩)))⟩
      clear e0 e1 e5 fe c0 c1 c2 c3 f3 hJ' hg HN
      have htk : L.take (i + 1) = L.take i ++ [m] := by rw [List.take_add_one, HM.out]; rfl
      have hnd : (ids (turnU rs fr tz L i)).Nodup := by rw [key_ids (turnU_key rs fr tz L i)]; exact hdoc.nodup
      have HND := Lib.hid hnd
      clear hnd
      cases bb with
      | true =>
        have hn1 : turnN rs fr (L.take (i + 1)) = turnN rs fr (L.take i) + 1 := by rw [htk, turnN_snoc, if_pos TB.out]
        have hf1 : turnF rs fr tz m = { m with st := tz } := by unfold turnF; rw [if_pos TB.out]
        have HN2 := Lib.hid hn1
        have HF2 := Lib.hid hf1
        clear hn1 htk hf1
        gi_wp2
        have hk : Kept (fun b => b = A m.id ∨ b = w.heap.size + 1 + 1 + 1) W' ((W'.setCell ⟨A m.id, 5, none⟩ (.int .i64 tz)).setCell ⟨w.heap.size + 1 + 1 + 1, 0, none⟩ (.int .i64 (turnN rs fr (L.take i) + 1))) :=
          ((Kept.refl _ _).setCell (p := ⟨A m.id, 5, none⟩) (fun _ => .inl rfl) _).setCell (p := ⟨w.heap.size + 1 + 1 + 1, 0, none⟩) (fun _ => .inr rfl) _
        have ho := HJ.out.off H2.out (Y := fun b => b = A m.id ∨ b = w.heap.size + 1 + 1 + 1) ((HG.out.kept.mono (fun _ _ h => h.elim)).trans hk (fun _ _ h => h)) (by have h9 := hB9.out; intro b hb; omega)
        refine ⟨ho.1, ho.2, ?_⟩
        show CJ _ _ _ _ _ _ _ _ _ _ _
        rw [HN2.out, U2.out, HF2.out]
        have h7 := HJ'.out
        rw [U1.out] at h7
        have h8 := h7.state (by rw [← U1.out]; exact HND.out) ⟨m.id, List.mem_map.2 ⟨m, List.mem_of_getElem? HM.out, rfl⟩, rfl⟩ tz
        exact h8.set 3 (.int .i64 (turnN rs fr (L.take i) + 1)) rfl (turnX_nodup ..)
      | false =>
        have hn1 : turnN rs fr (L.take (i + 1)) = turnN rs fr (L.take i) := by rw [htk, turnN_snoc, if_neg (by rw [TB.out]; simp), Int.add_zero]
        have hf1 : turnF rs fr tz m = m := by unfold turnF; rw [if_neg (by rw [TB.out]; simp)]
        have HN2 := Lib.hid hn1
        have HF2 := Lib.hid hf1
        clear hn1 htk hf1
        gi_wp2
        have ho := HJ.out.off H2.out (Y := fun _ => False) HG.out.kept (fun _ h => h.elim)
        refine ⟨ho.1, ho.2, ?_⟩
        show CJ _ _ _ _ _ _ _ _ _ _ _
        rw [HN2.out, U2.out, HF2.out, ← U1.out]
        exact HJ'.out
    · have tb : turnB rs fr m = false := by unfold turnB; rw [decide_eq_false q5, Bool.false_and]
      have htk : L.take (i + 1) = L.take i ++ [m] := by rw [List.take_add_one, HM.out]; rfl
      have hn1 : turnN rs fr (L.take (i + 1)) = turnN rs fr (L.take i) := by rw [htk, turnN_snoc, if_neg (by rw [tb]; simp), Int.add_zero]
      have hf1 : turnF rs fr tz m = m := by unfold turnF; rw [if_neg (by rw [tb]; simp)]
      have q6 : (m.st == fr) = false := by simpa using q5
      have HN2 := Lib.hid hn1
      have HF2 := Lib.hid hf1
      clear tb hn1 htk hf1 HN
      gi_wp2
      refine region_cut (fun W' => W' = W.drew) ?_
      apply Exists.intro
      refine ⟨?_, ?_⟩
      focus
        gi_region_with (refine ⟨trivial, ?_⟩)
        all_goals exact ⟨rfl, rfl, rfl⟩
      rintro W' rfl
      gi_wp2
      have ho := HJ.out.off H2.out (Y := fun _ => False) ((Kept.refl _ _).drew) (fun _ h => h.elim)
      refine ⟨ho.1, ho.2, ?_⟩
      show CJ _ _ _ _ _ _ _ _ _ _ _
      rw [HN2.out, U2.out, HF2.out, ← U1.out]
      exact HJ.out.drew
  case done =>
    rintro X W hJ0 hK
    have hJ : CJ w W0.heap.size (eltM L A) (turnX w.heap.size g (.slice va rs.length vc) fr tz (turnN rs fr (L.take L.length))) g (turnU rs fr tz L L.length) A S mp X W := hJ0
    have hu : turnU rs fr tz L L.length = L.map (turnF rs fr tz) := by unfold turnU; rw [List.take_length, List.drop_length, List.append_nil]
    rw [List.take_length, hu] at hJ
    have HJ := Lib.hid hJ
    have HK := Lib.hid hK
    have c3 : W.cell? ⟨w.heap.size + 1 + 1 + 1, 0, none⟩ = some (.int .i64 (turnN rs fr L)) := hJ.cell 3 rfl 0 rfl
    clear hJ0 hJ hK hu
    gi_wp2
    have hC2 := HJ.out.taken (.deferred none)
    exact ret_range HK.out (results_tmp rfl _ _ _) ⟨rfl, hC2.tree, hC2.kept⟩
  case stop =>
    rintro c X W h _
    exact h.elim
end Go.Proofs.YtlafodnaifghcaaGreat.Tr
namespace Go.Proofs.YtlafodnaifghcaaGreat.Tr
open Go.RowKit Go.Sort Go.Proofs.YtlafodnaifghcaaGreat.St
set_option maxRecDepth 100000 in
set_option maxHeartbeats 8000000 in
theorem rturned_any {w : World} {v rv : Value} {L : List Nd} {rs : List Run} (h : SlAt nodeE w v L) (hr : SlAt runE w rv rs) (hin : ∀ r ∈ rs, r.In) (hrl : rs.length ≤ 1000000) (hlen : L.length ≤ 900000) (hID : ∀ n ∈ L, 0 ≤ n.id.t ∧ n.id.t ≤ 2147483647) (fr tz : Int) :
    Calls Tryz.prog 74 #[.agg #[v], rv, .int .i64 fr, .int .i64 tz] w fun e w' => (∃ u, e = .returned (.tuple #[.agg #[u], .int .i64 (turnN rs fr L)]) ∧ w'.ownsRow w.heap.size 45 6 u L.length (nodeE.flat (L.map (turnF rs fr tz)))) ∧ Kept (fun _ => False) w w' := by
  obtain ⟨a, c, rfl, _, _⟩ := h.sl
  have hk0 : Kept (fun _ => False) w ((w.alloc (.cells #[.slice a L.length c] 33)).alloc (.cells #[.slice none 0 0] 33)) := ((Kept.refl _ _).alloc _).alloc _
  have HL := Lib.hid (h.kept hk0)
  have HR := Lib.hid (hr.kept hk0)
  have HI := Lib.hid hin
  have HD := Lib.hid hID
  have K0 := Lib.hid hk0
  have b0 := (Blk.new w 33 #[.slice a L.length c]).alloc (.cells #[.slice none 0 0] 33)
  have b1 := Blk.new (w.alloc (.cells #[.slice a L.length c] 33)) 33 #[.slice none 0 0]
  rw [World.size_alloc] at b1
  obtain ⟨ra, rc, rfl, _, _⟩ := hr.sl
  clear h hk0 hr hin hID
  go_enter Tryz.func74, Tryz.ntmps74
  go_upto_region 1 with fail
  obtain ⟨z, hz⟩ : ∃ z, w.heap.size = z := ⟨_, rfl⟩
  obtain ⟨W0, hW0⟩ : ∃ W0, ((w.alloc (.cells #[.slice a L.length c] 33)).alloc (.cells #[.slice none 0 0] 33)) = W0 := ⟨_, rfl⟩
  rw [hW0] at HL HR K0 b0 b1 ⊢
  rw [hz] at b0 b1 ⊢
  have B0 := Lib.hid b0
  have B1 := Lib.hid b1
  have HZ := Lib.hid hz
  clear hW0 hz b0 b1
  go_wp2_with fail
  go_loopw [10, 11, 12] (fun ov nv kv wr => ∃ n : Nat, kv = .int .i64 n ∧ nv = .int .i64 (turnN rs fr (L.take n)) ∧ n ≤ L.length ∧ wr.ownsRow W0.heap.size 45 6 ov n (nodeE.flat ((L.take n).map (turnF rs fr tz))) ∧ Kept (fun _ => False) W0 wr) (fun _ _ kv _ => L.length - (intOf kv).toNat)
  case atStart => exact ⟨0, rfl, by simp [turnN], Nat.zero_le _, World.ownsRow_nil .., Kept.refl _ _⟩
  case round =>
    obtain ⟨n, rfl, rfl, hn, ho, hk⟩ := hrel
    obtain ⟨ua, uc, rfl⟩ := owns_sl ho
    have HO := Lib.hid ho
    have KW := Lib.hid hk
    have hn0 : (0 : Int) ≤ n := by omega
    have c0 := (hk.blk (fun h => h) B0.out).cell' (i := 0) (v := .slice a L.length c) rfl
    clear ho hk
    by_cases hlt : n < L.length
    case neg =>
      have hnl : ¬ (n : Int) < L.length := by omega
      have hn9 : n = L.length := by omega
      subst hn9
      have OW := HO.out
      rw [List.take_length] at OW ⊢
      have O9 := Lib.hid OW
      have hb1 := KW.out.blk (fun h => h) B1.out
      have f1 := hb1.frozen 0
      have c1 := hb1.cell' (i := 0) (v := .slice none 0 0) rfl
      have HB1 := Lib.hid hb1
      have hzl : z + 1 < W0.heap.size := B1.out.lt
      clear OW hb1
      go_wp2_with fail
      have c9 := (HB1.out.set_ 0 (.slice ua L.length uc)).cell' (i := 0) (v := (.slice ua L.length uc)) (by simp)
      exact bodyPost_ret (v := .tuple #[.agg #[(.slice ua L.length uc)], .int .i64 (turnN rs fr L)]) (by simp [results, Tryz.results74, go_sem, c9]) rfl ⟨⟨(.slice ua L.length uc), rfl, owns_base9 (owns_keep O9.out (kept_cell wr (z + 1) (.slice ua L.length uc)) (fun b hb h9 => by have := owns_new O9.out b hb; omega)) K0.out.size⟩, (K0.out.trans KW.out fun _ _ h => h).trans (kept_cell wr (z + 1) (.slice ua L.length uc)) (fun b hb h9 => by have := HZ.out; omega)⟩
    case pos =>
      have hnl : (n : Int) < L.length := by omega
      obtain ⟨x, hx⟩ := get_of_lt hlt
      have hxm := List.mem_of_getElem? hx
      obtain ⟨g, o, c', e1, _, h1⟩ := SlAt.node (HL.out.kept KW.out) (by omega)
      cases e1
      obtain ⟨r0, r1, r2, r3, r4, r5⟩ := h1 n x hx
      have e1 : IntKind.i64.wrap ((n : Int) + 1) = (n : Int) + 1 := IntWalk.i64_in _ (by omega)
      have htk : L.take (n + 1) = L.take n ++ [x] := by rw [List.take_add_one, hx]; rfl
      have hidx := HD.out x hxm
      have T1 : Hid (turnN rs fr (L.take (n + 1)) = turnN rs fr (L.take n) + if turnB rs fr x then 1 else 0) := Lib.hid (by rw [htk, turnN_snoc])
      have T2 : Hid ((L.take (n + 1)).map (turnF rs fr tz) = (L.take n).map (turnF rs fr tz) ++ [turnF rs fr tz x]) := Lib.hid (by rw [htk, List.map_append]; rfl)
      have hml : ((L.take n).map (turnF rs fr tz)).length = n := by rw [List.length_map, List.length_take]; omega
      have ML := Lib.hid hml
      have htn := turnN_le rs fr (L.take n)
      have htl := List.length_take_le n L
      obtain ⟨tn, htne⟩ : ∃ tn, turnN rs fr (L.take n) = tn := ⟨_, rfl⟩
      rw [htne] at T1 htn ⊢
      have e2 : IntKind.i64.wrap (tn + 1) = tn + 1 := IntWalk.i64_in _ (by omega)
      have kx : Kept (fun _ => False) wr (wr.alloc (.cells #[.int .i64 x.id.t, .int .i64 x.id.s, .int .i64 x.ref.t, .int .i64 x.ref.s, .int .i32 x.rune, .int .i64 x.st] 45)) := (Kept.refl _ _).alloc _
      have hB2 := Blk.new wr 45 #[.int .i64 x.id.t, .int .i64 x.id.s, .int .i64 x.ref.t, .int .i64 x.ref.s, .int .i32 x.rune, .int .i64 x.st]
      have K1 := Lib.hid (KW.out.trans kx fun _ _ h => h)
      have O1 := Lib.hid (owns_keep HO.out kx fun _ _ h => h)
      obtain ⟨xt, hxt⟩ : ∃ xt, turnF rs fr tz x = xt := ⟨_, rfl⟩
      have XT := Lib.hid hxt
      rw [hxt] at T2
      clear hx htk hml htne hxt h1 hxm
      go_upto_region 7 with fail
      obtain ⟨W1, hW1⟩ : ∃ W1, (wr.alloc (.cells #[.int .i64 x.id.t, .int .i64 x.id.s, .int .i64 x.ref.t, .int .i64 x.ref.s, .int .i32 x.rune, .int .i64 x.st] 45)) = W1 := ⟨_, rfl⟩
      obtain ⟨zb, hzb⟩ : ∃ zb, wr.heap.size = zb := ⟨_, rfl⟩
      rw [hzb] at hB2 ⊢
      rw [hW1] at hB2 K1 O1 ⊢
      have ZB : Hid (W0.heap.size ≤ zb) := Lib.hid (by rw [← hzb]; exact KW.out.size)
      have OL : Hid (∀ b, (Value.slice ua n uc).ownBlock = some b → b < zb) := Lib.hid (fun b hb => by rw [← hzb]; exact (owns_lt HO.out b hb).2)
      clear hW1 hzb kx r0 r1 r2 r3 r4 r5 c0
      have z0 := hB2.cell' (i := 0) (v := .int .i64 x.id.t) rfl
      have z1 := hB2.cell' (i := 1) (v := .int .i64 x.id.s) rfl
      have z5 := hB2.cell' (i := 5) (v := .int .i64 x.st) rfl
      have BX := Lib.hid hB2
      clear hB2
      have FIN : Hid (∀ (W3 : World), Kept (fun b => b = zb) W1 W3 → Kept (fun _ => False) W0 W3 ∧ W3.ownsRow W0.heap.size 45 6 (.slice ua n uc) n (nodeE.flat ((L.take n).map (turnF rs fr tz)))) := Lib.hid (fun W3 hk3 =>
        ⟨K1.out.trans hk3 (fun b hb h9 => by have := ZB.out; omega), owns_keep O1.out hk3 (fun b hb h9 => by have := OL.out b hb; omega)⟩)
      clear HO KW
      have RN : Hid (∀ W', Kept (fun _ => False) W1 W' → Calls Tryz.prog 101 #[.slice ra rs.length rc, .agg #[.int .i64 x.id.t, .int .i64 x.id.s]] W' fun e w' => e = .returned (.bool (nameL rs x.id)) ∧ Kept (fun _ => False) W' w') := Lib.hid (fun W' hk' => rnamed_any (HR.out.kept ((K1.out).trans hk' fun _ _ h => h)) HI.out hrl x.id hidx)
      have hturn : (x.st = fr ∧ nameL rs x.id = true ∧ xt = ⟨x.id, x.ref, x.rune, tz⟩ ∧ turnB rs fr x = true) ∨ (x.st = fr ∧ nameL rs x.id = false ∧ xt = x ∧ turnB rs fr x = false) ∨ (¬ x.st = fr ∧ xt = x ∧ turnB rs fr x = false) := by
        have hx9 := XT.out
        unfold turnF turnB at hx9
        by_cases h1 : x.st = fr
        · cases h2 : nameL rs x.id
          · refine .inr (.inl ⟨h1, rfl, ?_, by unfold turnB; rw [h2, Bool.and_false]⟩)
            rw [h2, Bool.and_false, if_neg (by decide)] at hx9
            exact hx9.symm
          · refine .inl ⟨h1, rfl, ?_, by unfold turnB; rw [h2, decide_eq_true h1]; rfl⟩
            rw [h2, decide_eq_true h1, if_pos (by decide)] at hx9
            exact hx9.symm
        · refine .inr (.inr ⟨h1, ?_, by unfold turnB; rw [decide_eq_false h1]; rfl⟩)
          rw [decide_eq_false h1, Bool.false_and, if_neg (by decide)] at hx9
          exact hx9.symm
      rcases hturn with ⟨q1, q2, q3, q4⟩ | ⟨q1, q2, q3, q4⟩ | ⟨q1, q3, q4⟩
      case inl =>
        rw [q2] at RN
        rw [q1] at z5
        have T1' : Hid (turnN rs fr (L.take (n + 1)) = tn + 1) := Lib.hid (by rw [T1.out, q4]; rfl)
        subst q3
        clear T1 q4 q1 q2
        go_upto_region 10 with (go_at_call 101; refine (RN.out _ (Kept.refl _ _)).mono ?_; rintro e w' ⟨rfl, hk2⟩; have hb2 := hk2.blk (fun h => h) BX.out; have y5 := hb2.cell' (i := 5) (v := .int .i64 x.st) rfl; have f5 := hb2.frozen 5; have BX2 := Lib.hid hb2; have KX := Lib.hid hk2; clear hk2 hb2)
        have hb3 : Blk (w'.setCell ⟨zb, 5, none⟩ (.int .i64 tz)) zb 45 #[.int .i64 x.id.t, .int .i64 x.id.s, .int .i64 x.ref.t, .int .i64 x.ref.s, .int .i32 x.rune, .int .i64 tz] := (by have h9 := BX2.out.set_ 5 (.int .i64 tz); simpa using h9)
        have kk := FIN.out ((w'.setCell ⟨zb, 5, none⟩ (.int .i64 tz))) ((KX.out.mono fun _ _ h => h.elim).trans ((Kept.refl (fun b => b = zb) w').setCell (p := ⟨zb, 5, none⟩) (fun _ => rfl) _) (fun _ _ h => h))
        have v0 := hb3.cell' (i := 0) (v := .int .i64 x.id.t) rfl
        have v1 := hb3.cell' (i := 1) (v := .int .i64 x.id.s) rfl
        have v2 := hb3.cell' (i := 2) (v := .int .i64 x.ref.t) rfl
        have v3 := hb3.cell' (i := 3) (v := .int .i64 x.ref.s) rfl
        have v4 := hb3.cell' (i := 4) (v := .int .i32 x.rune) rfl
        have v5 := hb3.cell' (i := 5) (v := .int .i64 tz) rfl
        obtain ⟨W3, hW3⟩ : ∃ W3, (w'.setCell ⟨zb, 5, none⟩ (.int .i64 tz)) = W3 := ⟨_, rfl⟩
        rw [hW3] at kk v0 v1 v2 v3 v4 v5 ⊢
        have LD : Hid (SlAt nodeE (W3.alloc (.cells #[.int .i64 x.id.t, .int .i64 x.id.s, .int .i64 x.ref.t, .int .i64 x.ref.s, .int .i32 x.rune, .int .i64 tz] 45)) (.slice (some ⟨W3.heap.size, 0, none⟩) 1 1) [(⟨x.id, x.ref, x.rune, tz⟩ : Nd)]) := Lib.hid (SlAt.lit (E := nodeE) [(⟨x.id, x.ref, x.rune, tz⟩ : Nd)] _ rfl (by simp [maxLen]))
        have O2 := Lib.hid (owns_keep kk.2 ((Kept.refl (fun _ => False) W3).alloc (.cells #[.int .i64 x.id.t, .int .i64 x.id.s, .int .i64 x.ref.t, .int .i64 x.ref.s, .int .i32 x.rune, .int .i64 tz] 45)) (fun _ _ h => h))
        have K2 := Lib.hid (kk.1.alloc (.cells #[.int .i64 x.id.t, .int .i64 x.id.s, .int .i64 x.ref.t, .int .i64 x.ref.s, .int .i32 x.rune, .int .i64 tz] 45))
        clear hW3 kk hb3 FIN RN
        go_wp2_with (at_builtin; refine wpList_append_row nodeE rfl (.tmp 40) (.tmp 42) 31 rfl W0.heap.size 45 _ 48 Tryz.underlying31 info_node rfl (D := (L.take n).map (turnF rs fr tz)) rfl rfl (by rw [ML.out]; exact O2.out) LD.out (by rw [ML.out]; show n + 1 ≤ maxLen; unfold maxLen; omega) (by rw [ML.out]; show (n + 1) * 48 ≤ 140737488355328; omega) K2.out.size ?_; intro v9 w9 ho9 hk9)
        go_roundw
        case rel => exact ⟨n + 1, by go_num, by rw [T1'.out], by omega, by rw [T2.out]; have h9 := ho9; rw [List.length_append, ML.out] at h9; exact h9, K2.out.over hk9 (fun b hb => owns_new O2.out b hb)⟩
        case measure => simp [intOf]; omega
      case inr.inl =>
        rw [q2] at RN
        rw [q1] at z5
        have T1' : Hid (turnN rs fr (L.take (n + 1)) = tn) := Lib.hid (by rw [T1.out, q4]; simp)
        have q3' := q3.symm
        subst q3'
        clear T1 q4 q1 q2
        go_upto_region 10 with (go_at_call 101; refine (RN.out _ (Kept.refl _ _)).mono ?_; rintro e w' ⟨rfl, hk2⟩; have hb2 := hk2.blk (fun h => h) BX.out; have y5 := hb2.cell' (i := 5) (v := .int .i64 x.st) rfl; have f5 := hb2.frozen 5; have BX2 := Lib.hid hb2; have KX := Lib.hid hk2; clear hk2 hb2)
        have hb3 : Blk w' zb 45 #[.int .i64 x.id.t, .int .i64 x.id.s, .int .i64 x.ref.t, .int .i64 x.ref.s, .int .i32 x.rune, .int .i64 x.st] := BX2.out
        have kk := FIN.out (w') (KX.out.mono fun _ _ h => h.elim)
        have v0 := hb3.cell' (i := 0) (v := .int .i64 x.id.t) rfl
        have v1 := hb3.cell' (i := 1) (v := .int .i64 x.id.s) rfl
        have v2 := hb3.cell' (i := 2) (v := .int .i64 x.ref.t) rfl
        have v3 := hb3.cell' (i := 3) (v := .int .i64 x.ref.s) rfl
        have v4 := hb3.cell' (i := 4) (v := .int .i32 x.rune) rfl
        have v5 := hb3.cell' (i := 5) (v := .int .i64 x.st) rfl
        obtain ⟨W3, hW3⟩ : ∃ W3, w' = W3 := ⟨_, rfl⟩
        rw [hW3] at kk v0 v1 v2 v3 v4 v5 ⊢
        have LD : Hid (SlAt nodeE (W3.alloc (.cells #[.int .i64 x.id.t, .int .i64 x.id.s, .int .i64 x.ref.t, .int .i64 x.ref.s, .int .i32 x.rune, .int .i64 x.st] 45)) (.slice (some ⟨W3.heap.size, 0, none⟩) 1 1) [(x : Nd)]) := Lib.hid (SlAt.lit (E := nodeE) [(x : Nd)] _ rfl (by simp [maxLen]))
        have O2 := Lib.hid (owns_keep kk.2 ((Kept.refl (fun _ => False) W3).alloc (.cells #[.int .i64 x.id.t, .int .i64 x.id.s, .int .i64 x.ref.t, .int .i64 x.ref.s, .int .i32 x.rune, .int .i64 x.st] 45)) (fun _ _ h => h))
        have K2 := Lib.hid (kk.1.alloc (.cells #[.int .i64 x.id.t, .int .i64 x.id.s, .int .i64 x.ref.t, .int .i64 x.ref.s, .int .i32 x.rune, .int .i64 x.st] 45))
        clear hW3 kk hb3 FIN RN
        go_wp2_with (at_builtin; refine wpList_append_row nodeE rfl (.tmp 40) (.tmp 42) 31 rfl W0.heap.size 45 _ 48 Tryz.underlying31 info_node rfl (D := (L.take n).map (turnF rs fr tz)) rfl rfl (by rw [ML.out]; exact O2.out) LD.out (by rw [ML.out]; show n + 1 ≤ maxLen; unfold maxLen; omega) (by rw [ML.out]; show (n + 1) * 48 ≤ 140737488355328; omega) K2.out.size ?_; intro v9 w9 ho9 hk9)
        go_roundw
        case rel => exact ⟨n + 1, by go_num, by rw [T1'.out], by omega, by rw [T2.out]; have h9 := ho9; rw [List.length_append, ML.out] at h9; exact h9, K2.out.over hk9 (fun b hb => owns_new O2.out b hb)⟩
        case measure => simp [intOf]; omega
      case inr.inr =>
        have q6 : (x.st == fr) = false := by simpa using q1
        have T1' : Hid (turnN rs fr (L.take (n + 1)) = tn) := Lib.hid (by rw [T1.out, q4]; simp)
        have q3' := q3.symm
        subst q3'
        clear T1 q4 q1
        go_upto_region 10 with fail
        have hb3 : Blk W1 zb 45 #[.int .i64 x.id.t, .int .i64 x.id.s, .int .i64 x.ref.t, .int .i64 x.ref.s, .int .i32 x.rune, .int .i64 x.st] := BX.out
        have kk := FIN.out (W1) (Kept.refl _ _)
        have v0 := hb3.cell' (i := 0) (v := .int .i64 x.id.t) rfl
        have v1 := hb3.cell' (i := 1) (v := .int .i64 x.id.s) rfl
        have v2 := hb3.cell' (i := 2) (v := .int .i64 x.ref.t) rfl
        have v3 := hb3.cell' (i := 3) (v := .int .i64 x.ref.s) rfl
        have v4 := hb3.cell' (i := 4) (v := .int .i32 x.rune) rfl
        have v5 := hb3.cell' (i := 5) (v := .int .i64 x.st) rfl
        obtain ⟨W3, hW3⟩ : ∃ W3, W1 = W3 := ⟨_, rfl⟩
        rw [hW3] at kk v0 v1 v2 v3 v4 v5 ⊢
        have LD : Hid (SlAt nodeE (W3.alloc (.cells #[.int .i64 x.id.t, .int .i64 x.id.s, .int .i64 x.ref.t, .int .i64 x.ref.s, .int .i32 x.rune, .int .i64 x.st] 45)) (.slice (some ⟨W3.heap.size, 0, none⟩) 1 1) [(x : Nd)]) := Lib.hid (SlAt.lit (E := nodeE) [(x : Nd)] _ rfl (by simp [maxLen]))
        have O2 := Lib.hid (owns_keep kk.2 ((Kept.refl (fun _ => False) W3).alloc (.cells #[.int .i64 x.id.t, .int .i64 x.id.s, .int .i64 x.ref.t, .int .i64 x.ref.s, .int .i32 x.rune, .int .i64 x.st] 45)) (fun _ _ h => h))
        have K2 := Lib.hid (kk.1.alloc (.cells #[.int .i64 x.id.t, .int .i64 x.id.s, .int .i64 x.ref.t, .int .i64 x.ref.s, .int .i32 x.rune, .int .i64 x.st] 45))
        clear hW3 kk hb3 FIN RN
        go_wp2_with (at_builtin; refine wpList_append_row nodeE rfl (.tmp 40) (.tmp 42) 31 rfl W0.heap.size 45 _ 48 Tryz.underlying31 info_node rfl (D := (L.take n).map (turnF rs fr tz)) rfl rfl (by rw [ML.out]; exact O2.out) LD.out (by rw [ML.out]; show n + 1 ≤ maxLen; unfold maxLen; omega) (by rw [ML.out]; show (n + 1) * 48 ≤ 140737488355328; omega) K2.out.size ?_; intro v9 w9 ho9 hk9)
        go_roundw
        case rel => exact ⟨n + 1, by go_num, by rw [T1'.out], by omega, by rw [T2.out]; have h9 := ho9; rw [List.length_append, ML.out] at h9; exact h9, K2.out.over hk9 (fun b hb => owns_new O2.out b hb)⟩
        case measure => simp [intOf]; omega
end Go.Proofs.YtlafodnaifghcaaGreat.Tr
