/- All's iterator: for a function that is handed to it, and in a range over a function. roll.set's iterator. past.has: is all that a vector names there. (*causal.Queue).may. causal.far. -/
import Derived.Test.YtjohljmpcblpjaaGreatDoorL11
import Derived.Test.YtjohljmpcblpjaaGreatDoorL6
import Derived.Test.YtjohljmpcblpjaaGreatDoorL9
import Derived.Test.YtjohljmpcblpjaaGreatDoorL5
import Derived.Lib.Hide
import Derived.Laws.StructEq
import Derived.Shelf.SlSortCmp.QuietGrown
import Derived.Deep.RegionHeld3
namespace Go.Proofs.YtjohljmpcblpjaaGreatDoor.Tr
open Go.RowKit Go.Proofs.YtjohljmpcblpjaaGreatDoor.St Go.Shelf
attribute [local go_sem] Oper.semAt_some
theorem SlAt.node {w : World} {v : Value} {L : List Nd} (h : SlAt nodeE w v L) (hn : 0 < L.length) : ∃ g o c, v = .slice (some ⟨g, o, none⟩) L.length c ∧ g < w.heap.size ∧ ∀ (i : Nat) (x : Nd), L[i]? = some x →
    w.cell? ⟨g, o + i * 6, none⟩ = some (.int .i64 x.id.t) ∧ w.cell? ⟨g, o + i * 6 + 1, none⟩ = some (.int .i64 x.id.s) ∧ w.cell? ⟨g, o + i * 6 + 2, none⟩ = some (.int .i64 x.ref.t) ∧ w.cell? ⟨g, o + i * 6 + 3, none⟩ = some (.int .i64 x.ref.s) ∧ w.cell? ⟨g, o + i * 6 + 4, none⟩ = some (.int .i32 x.rune) ∧ w.cell? ⟨g, o + i * 6 + 5, none⟩ = some (.int .i64 x.st) := by
  obtain ⟨g, o, c, rfl, _, _, hg, hc⟩ := h.one hn
  exact ⟨g, o, c, rfl, hg, fun i x hx => ⟨hc i x hx 0 _ rfl, hc i x hx 1 _ rfl, hc i x hx 2 _ rfl, hc i x hx 3 _ rfl, hc i x hx 4 _ rfl, hc i x hx 5 _ rfl⟩⟩
set_option maxRecDepth 100000 in
set_option maxHeartbeats 4000000 in
theorem allp_any {w : World} {L : List Nd} {pl : Nat} {v : Value} (hb : L.length ≤ 1000000) (k : FuncId) (caps : Array Value) (I : Nat → World → Prop) (Z : World → Prop)
    (hrd : ∀ i w, I i w → w.cell? ⟨pl, 0, none⟩ = some v ∧ SlAt nodeE w v L) (hgr : ∀ i w w', I i w → Kept (fun _ => False) w w' → I i w')
    (hy : ∀ i x w, L[i]? = some x → I i w → Calls Tryz.prog k (#[idV x.id, .int .i32 x.rune] ++ caps) w fun e w' => ∃ b, e = .returned (.bool b) ∧ (b = true → I (i + 1) w') ∧ (b = false → Z w'))
    (hen : ∀ args w, Sem.run Tryz.prog (callFunc k args) w = .ok (.enter k args) w) (h : I 0 w) :
    Calls Tryz.prog 132 #[.func (.func k) #[] caps, .pointer (some ⟨pl, 0, none⟩)] w fun e w' => e = .returned (.tuple #[]) ∧ (I L.length w' ∨ Z w') := by
  obtain ⟨x0, hs0⟩ := hrd 0 w h
  obtain ⟨a, c, rfl, _, _⟩ := hs0.sl
  have RD := Lib.hid hrd
  have GR := Lib.hid hgr
  have HY := Lib.hid hy
  have H0 := Lib.hid h
  clear hrd hgr hy hs0 h
  go_enter Tryz.func132, Tryz.ntmps132
  go_wp2_with fail
  go_loopw [7] (fun iv wr => ∃ j : Nat, iv = .int .i64 j ∧ j ≤ L.length ∧ I j wr) (fun iv _ => L.length - (intOf iv).toNat)
  case atStart => exact ⟨0, rfl, Nat.zero_le _, H0.out⟩
  case round =>
    obtain ⟨j, rfl, hj, hI⟩ := hrel
    have hj0 : (0 : Int) ≤ j := by omega
    by_cases hlt : j < L.length
    case neg =>
      have hnl : ¬ (j : Int) < L.length := by omega
      go_wp2_with fail
      go_end0
      exact ⟨rfl, .inl (by rw [show j = L.length by omega] at hI; exact hI)⟩
    case pos =>
      have hltI : (j : Int) < L.length := by omega
      obtain ⟨r, hr⟩ := get_of_lt hlt
      obtain ⟨_, hs1⟩ := RD.out _ _ hI
      obtain ⟨g, o, c', hv, hglt, hc⟩ := SlAt.node hs1 (by omega)
      cases hv
      obtain ⟨c0, c1, c2, c3, c4, c5⟩ := hc j r hr
      have hcall := HY.out j r (wr.alloc (.cells #[.int .i64 r.id.t, .int .i64 r.id.s, .int .i64 r.ref.t, .int .i64 r.ref.s, .int .i32 r.rune, .int .i64 r.st] 84)) hr (GR.out _ _ _ hI ((Kept.refl _ _).alloc _))
      unfold idV at hcall
      have R := Lib.hid hr
      clear hr hc hs1 hI
      go_wp2_with fail
      refine hcall.mono ?_
      rintro e w2 ⟨bb, rfl, ht, hf⟩
      cases bb with
      | true =>
        have T := Lib.hid (ht rfl)
        clear ht hf
        go_wp2_with fail
        go_roundw
        case rel => exact ⟨j + 1, by go_num, by omega, T.out⟩
        case measure => simp [intOf]; omega
      | false =>
        have T := Lib.hid (hf rfl)
        clear ht hf
        go_wp2_with fail
        refine bodyPost_ret (results_none rfl _ _ _) rfl ?_
        exact ⟨rfl, .inr T.out⟩
def nodeEnc (L : List Nd) (i : Nat) : Array Value := #[.agg #[.int .i64 (nth L i).id.t, .int .i64 (nth L i).id.s], .int .i32 (nth L i).rune]
set_option maxRecDepth 100000 in
set_option maxHeartbeats 8000000 in
theorem all2_iter {L : List Nd} {pl : Nat} {v : Value} (hb : L.length ≤ 1000000) :
    IterOk Fence.wide 5 Tryz.prog 132 #[.pointer (some ⟨pl, 0, none⟩)] L.length (nodeEnc L) (fun w => w.cell? ⟨pl, 0, none⟩ = some v ∧ SlAt nodeE w v L) := by
  intro yl I Z X0 w hrd hgr hgz hy h0
  obtain ⟨x0, hs0⟩ := hrd _ _ w h0
  obtain ⟨a, c, rfl, _, _⟩ := hs0.sl
  have RD := Lib.hid hrd
  have GR := Lib.hid hgr
  have HY := Lib.hid hy
  have H0 := Lib.hid h0
  clear hrd hgr hgz hy hs0 h0
  refine callsIn_of_wp Tryz.func132 rfl trivial ?_ rfl
  simp only [Tryz.ntmps132, List.size_toArray, List.length_cons, List.length_nil, Nat.reduceAdd, Nat.reduceSub, Array.replicate_succ, Array.replicate_zero, List.push_toArray, List.append_toArray, List.nil_append, List.cons_append]
  gi_wp2
  gi_loopw [7] (fun iv wr => ∃ j : Nat, iv = .int .i64 j ∧ j ≤ L.length ∧ ∃ X, I j X wr) (fun iv _ => L.length - (intOf iv).toNat)
  case atStart => exact ⟨0, rfl, Nat.zero_le _, _, H0.out⟩
  case round =>
    obtain ⟨j, rfl, hj, X, hI⟩ := hrel
    have hj0 : (0 : Int) ≤ j := by omega
    by_cases hlt : j < L.length
    case neg =>
      have hnl : ¬ (j : Int) < L.length := by omega
      gi_wp2
      go_end0
      exact ⟨⟨_, rfl⟩, .inl ⟨X, by rw [show j = L.length by omega] at hI; exact hI⟩⟩
    case pos =>
      have hltI : (j : Int) < L.length := by omega
      obtain ⟨r, hr⟩ := get_of_lt hlt
      obtain ⟨_, hs1⟩ := RD.out _ _ _ hI
      obtain ⟨g, o, c', hv, hglt, hc⟩ := SlAt.node hs1 (by omega)
      cases hv
      obtain ⟨c0, c1, c2, c3, c4, c5⟩ := hc j r hr
      have hcall := HY.out j _ (wr.alloc (.cells #[.int .i64 r.id.t, .int .i64 r.id.s, .int .i64 r.ref.t, .int .i64 r.ref.s, .int .i32 r.rune, .int .i64 r.st] 84)) hlt (GR.out _ _ _ _ hI ((Kept.refl _ _).alloc _))
      unfold nodeEnc at hcall
      rw [nth_some hr] at hcall
      obtain ⟨fn, tmps, assign, body, hy, hR⟩ := hcall
      have HRR := Lib.hid hR
      clear hr hc hs1 hI hR
      gi_wp2
      refine HRR.out.mono ?_
      rintro e w2 ⟨bb, rfl, _, _, ht, hf⟩
      cases bb with
      | true =>
        have T := Lib.hid (ht rfl)
        clear ht hf hy c0 c1 c2 c3 c4 c5
        gi_wp2
        go_roundw
        case rel => exact ⟨j + 1, by go_num, by omega, _, T.out⟩
        case measure => simp [intOf]; omega
      | false =>
        have T := Lib.hid (hf rfl)
        clear ht hf hy c0 c1 c2 c3 c4 c5
        gi_wp2
        refine bodyPost_ret (results_none rfl _ _ _) rfl ?_
        exact ⟨⟨_, rfl⟩, .inr ⟨_, T.out⟩⟩
end Go.Proofs.YtjohljmpcblpjaaGreatDoor.Tr
namespace Go.Proofs.YtjohljmpcblpjaaGreatDoor.Pa
open Go.RowKit Go.Proofs.YtjohljmpcblpjaaGreatDoor.St Go.Proofs.YtjohljmpcblpjaaGreatDoor Go.Proofs.YtjohljmpcblpjaaGreatDoor.Tr Go.Shelf
attribute [local go_sem] Oper.semAt_some
def bitsL (x : BitVec 32) : List Nat := (List.range 17).filter fun i => x.getLsbD i
theorem mem_bits {x : BitVec 32} {i : Nat} : i ∈ bitsL x ↔ i ≤ 16 ∧ x.getLsbD i = true := by
  unfold bitsL
  rw [List.mem_filter, List.mem_range]
  constructor
  · exact fun h => ⟨by omega, h.2⟩
  · exact fun h => ⟨by omega, h.2⟩
/-- no bit beyond a site's -/
def Few (x : BitVec 32) : Prop := ∀ i, x.getLsbD i = true → i ≤ 16
theorem bits_none {x : BitVec 32} (hf : Few x) (h : bitsL x = []) : x = 0#32 := by
  refine BitVec.eq_of_getLsbD_eq fun i hi => ?_
  cases hx : x.getLsbD i with
  | false => simp
  | true =>
    have h1 : i ∈ bitsL x := mem_bits.2 ⟨hf i hx, hx⟩
    rw [h] at h1
    simp at h1
theorem bits_cons {x : BitVec 32} {k : Nat} {r : List Nat} (h : bitsL x = k :: r) : k ≤ 16 ∧ x.getLsbD k = true ∧ (∀ j, j < k → x.getLsbD j = false) ∧ bitsL (x &&& (x - 1#32)) = r := by
  have hk := mem_bits.1 (show k ∈ bitsL x by rw [h]; exact List.mem_cons_self)
  have hup : (bitsL x).Pairwise (· < ·) := List.pairwise_lt_range.filter _
  rw [h] at hup
  obtain ⟨u1, u2⟩ := List.pairwise_cons.1 hup
  have hl : ∀ j, j < k → x.getLsbD j = false := fun j hj => by
    cases hx : x.getLsbD j with
    | false => rfl
    | true =>
      have h1 : j ∈ bitsL x := mem_bits.2 ⟨by omega, hx⟩
      rw [h] at h1
      rcases List.mem_cons.1 h1 with h2 | h2
      · omega
      · have := u1 j h2; omega
  refine ⟨hk.1, hk.2, hl, ?_⟩
  have e1 : bitsL (x &&& (x - 1#32)) = (bitsL x).filter fun i => !decide (i = k) := by
    unfold bitsL
    rw [List.filter_filter]
    refine List.filter_congr fun i _ => ?_
    rw [drop_low hk.2 hl, Bool.and_comm]
  rw [e1, h, List.filter_cons_of_neg (by simp)]
  refine List.filter_eq_self.2 fun i hi => ?_
  have := u1 i hi
  simp
  omega
theorem few_drop {x : BitVec 32} (h : Few x) : Few (x &&& (x - 1#32)) := fun i hi => by
  rw [BitVec.getLsbD_and] at hi
  exact h i (by simp at hi; exact hi.1)
def bitEnc (x : BitVec 32) (i : Nat) : Array Value := #[.int .i64 (((bitsL x)[i]?.getD 0 : Nat) : Int)]
theorem bitEnc_some {x : BitVec 32} {i k : Nat} (h : (bitsL x)[i]? = some k) : bitEnc x i = #[.int .i64 (k : Int)] := by unfold bitEnc; rw [h]; rfl
/-- the head of the loop -/
def SetAt (I : Nat → (Nat → Prop) → World → Prop) (bx : Nat) (x : BitVec 32) (m : Nat) (w : World) : Prop :=
  ∃ i X y, m = (bitsL x).length - i ∧ I i X w ∧ X bx ∧ Blk w bx 165 #[u32V y] ∧ Few y ∧ bitsL y = (bitsL x).drop i ∧ i ≤ (bitsL x).length
set_option maxRecDepth 100000 in
set_option maxHeartbeats 1000000 in
theorem set1_iter {bx n0 : Nat} {x : BitVec 32} (hf : Few x) (h1 : 1 ≤ n0) :
    IterOkS Fence.wide n0 Tryz.prog 175 #[.pointer (some ⟨bx, 0, none⟩)] (bitsL x).length (bitEnc x) TabAt (fun X0 W => X0 bx ∧ Blk W bx 165 #[u32V x]) := by
  intro yl I Z X0 w hrd hgr hgz hy hst h0
  have RD := Lib.hid hrd
  have GR := Lib.hid hgr
  have GZ := Lib.hid hgz
  have HY := Lib.hid hy
  have START : Hid (∃ m, SetAt I bx x m w) := Lib.hid ⟨_, 0, X0, x, rfl, h0, hst.1, hst.2, hf, rfl, Nat.zero_le _⟩
  clear hrd hgr hgz hy h0 hst
  refine callsIn_of_wp Tryz.func175 rfl trivial ?_ rfl
  simp only [Tryz.ntmps175, List.size_toArray, List.length_cons, List.length_nil, Nat.reduceAdd, Nat.reduceSub, Array.replicate_succ, Array.replicate_zero, List.push_toArray, List.append_toArray, List.nil_append, List.cons_append]
  gi_wp2
  gi_loopw [3] (fun _ wr => ∃ m, SetAt I bx x m wr) (fun _ wr => least (fun m => SetAt I bx x m wr))
  case atStart => exact START.out
  case round =>
    obtain ⟨i, X, y, hm, hI, hX, hB, hFy, hdr, hi⟩ := least_spec hrel
    have c0 : wr.cell? ⟨bx, 0, none⟩ = some (.int .u32 (y.toNat : Int)) := hB.cell' (i := 0) rfl
    have f0 := hB.frozen 0
    have HM := Lib.hid hm
    have HI := Lib.hid hI
    have HX := Lib.hid hX
    have HB := Lib.hid hB
    have HFY := Lib.hid hFy
    have HDR := Lib.hid hdr
    have HIL := Lib.hid hi
    have hT := Lib.hid (RD.out _ _ _ hI)
    clear hm hI hX hB hFy hdr hi hrel START
    cases hb : bitsL y with
    | nil =>
      have hy0 : (y.toNat : Int) = 0 := by rw [bits_none HFY.out hb]; rfl
      have hin : i = (bitsL x).length := by
        have h9 := HDR.out
        rw [hb] at h9
        have := List.drop_eq_nil_iff.1 h9.symm
        have := HIL.out
        omega
      have FIN := Lib.hid (hin ▸ HI.out)
      rw [hy0] at c0
      clear hb hin hy0
      gi_wp2
      go_end0
      exact ⟨⟨_, rfl⟩, .inl ⟨X, FIN.out⟩⟩
    | cons k r =>
      obtain ⟨k1, k2, k3, k4⟩ := bits_cons hb
      have hyn : y ≠ 0 := fun e => by rw [e] at k2; simp at k2
      have hy0 : ¬ (y.toNat : Int) = 0 := fun e => hyn (BitVec.eq_of_toNat_eq (by simpa using e))
      have hki : (bitsL x)[i]? = some k := by
        have h9 := congrArg (·[0]?) HDR.out
        rw [hb] at h9
        simpa using h9.symm
      have hdr2 : bitsL (y &&& (y - 1#32)) = (bitsL x).drop (i + 1) := by
        have h9 := congrArg List.tail HDR.out
        rw [hb, List.tail_drop] at h9
        rw [k4]
        exact h9
      have hyy := HY.out i _ _ (List.getElem?_eq_some_iff.1 hki).1 HI.out
      rw [bitEnc_some hki] at hyy
      obtain ⟨fn, tmps, assign, body, hyd, hR⟩ := hyy
      have TZ := Lib.hid (tz_any hT.out k1 k2 k3)
      have hs1 := sub1_u32 hyn
      have ha1 := and_u32 y (y - 1#32)
      have HRR := Lib.hid hR
      have HD2 := Lib.hid hdr2
      have HKI := Lib.hid (List.getElem?_eq_some_iff.1 hki).1
      have HF2 := Lib.hid (few_drop HFY.out)
      obtain ⟨y2, hy2⟩ : ∃ y2, y &&& (y - 1#32) = y2 := ⟨_, rfl⟩
      obtain ⟨nx, hnx⟩ : ∃ nx : Int, ((y - 1#32).toNat : Int) = nx := ⟨_, rfl⟩
      rw [hy2] at ha1 HD2 HF2
      rw [hnx] at hs1 ha1
      unfold u32V at TZ
      clear hR hdr2 hki k1 k2 k3 k4 hyn hb hy2 hnx
      gi_wp2_with (refine ⟨trivial, ?_⟩; gi_at_call 176; refine (callsIn_wide.2 TZ.out).mono ?_; rintro e w2 ⟨rfl, rfl⟩)
      refine HRR.out.mono ?_
      clear hyd HRR
      rintro e w3 ⟨bb, rfl, hX2, hz2, ht, hf⟩
      cases bb with
      | false =>
        have ZZ := Lib.hid (hf rfl)
        clear ht hf hX2 hz2 c0 f0 hs1 ha1
        gi_wp2
        refine bodyPost_ret (results_none rfl _ _ _) rfl ?_
        exact ⟨⟨_, rfl⟩, .inr ⟨_, ZZ.out⟩⟩
      | true =>
        have I3 := Lib.hid (ht rfl)
        have B3 : Blk w3 bx 165 #[u32V y] := (hX2 bx HX.out).trans HB.out
        have c3 : w3.cell? ⟨bx, 0, none⟩ = some (.int .u32 (y.toNat : Int)) := B3.cell' (i := 0) rfl
        have f3 := B3.frozen 0
        have k4 := kept_cell w3 bx (.int .u32 (y2.toNat : Int))
        have B4 : Blk (w3.setCell ⟨bx, 0, none⟩ (.int .u32 (y2.toNat : Int))) bx 165 #[u32V y2] := B3.set_ 0 _
        have NX : Hid (∃ m, m < (bitsL x).length - i ∧ SetAt I bx x m (w3.setCell ⟨bx, 0, none⟩ (.int .u32 (y2.toNat : Int)))) := Lib.hid ⟨_, by have := HKI.out; omega, i + 1, _, y2, rfl, GR.out _ _ _ _ I3.out (k4.mono fun b _ h => by rw [h]; exact HX.out), .inl HX.out, B4, HF2.out, HD2.out, HKI.out⟩
        clear ht hf hX2 hz2 c0 f0 k4 B4 B3
        gi_wp2
        go_roundw
        case rel => obtain ⟨m, _, h9⟩ := NX.out; exact ⟨m, h9⟩
        case measure =>
          obtain ⟨m, h8, h9⟩ := NX.out
          have h10 := least_le (P := fun m => SetAt I bx x m (w3.setCell ⟨bx, 0, none⟩ (.int .u32 (y2.toNat : Int)))) h9
          have h11 := HM.out
          omega
end Go.Proofs.YtjohljmpcblpjaaGreatDoor.Pa
namespace Go.Proofs.YtjohljmpcblpjaaGreatDoor.Pa
open Go.RowKit Go.Proofs.YtjohljmpcblpjaaGreatDoor.St Go.Proofs.YtjohljmpcblpjaaGreatDoor
def HasPost (K D : List Dot) (e : Ending) : Prop := ∃ r, e = .returned (.bool r) ∧ (r = true ↔ wholeP K D)
set_option maxRecDepth 100000 in
set_option maxHeartbeats 4000000 in
theorem has_any {w : World} {b : Nat} {kvs : List (Dot × Value)} {dv : Value} {D : List Dot} (hm : OpsM w b kvs) (hD : SlAt dotE w dv D) (hI : ∀ d ∈ D, I64 d.seq) (hl : D.length ≤ 1000000000) :
    Calls Tryz.prog 63 #[.map (some b), dv] w fun e w' => HasPost (kvs.map (·.1)) D e ∧ Kept (fun _ => False) w w' := by
  obtain ⟨da, dc, rfl, _, _⟩ := hD.sl
  have HM := Lib.hid hm
  have HD := Lib.hid hD
  have HI := Lib.hid hI
  clear hm hD hI
  go_enter Tryz.func63, Tryz.ntmps63
  go_wp2_with fail
  go_loopw [12] (fun iv wr => ∃ n : Nat, iv = .int .i64 n ∧ n ≤ D.length ∧ Kept (fun _ => False) w wr ∧ wholeP (kvs.map (·.1)) (D.take n)) (fun iv _ => D.length - (intOf iv).toNat)
  case atStart => exact ⟨0, rfl, Nat.zero_le _, Kept.refl _ _, fun d hd => by simp at hd⟩
  case round =>
    obtain ⟨n, rfl, hn, hk, hw⟩ := hrel
    have hn0 : (0 : Int) ≤ n := by omega
    have HW := Lib.hid hw
    have HK := Lib.hid hk
    clear hw hk
    by_cases hlt : n < D.length
    case neg =>
      have hnl : ¬ (n : Int) < D.length := by omega
      have e9 : D.take n = D := List.take_of_length_le (by omega)
      have H9 : Hid (wholeP (kvs.map (·.1)) D) := Lib.hid (by rw [← e9]; exact HW.out)
      clear e9
      go_wp2_with fail
      go_ret
      exact ⟨⟨true, rfl, fun _ => H9.out, fun _ => rfl⟩, HK.out⟩
    case pos =>
      have hnl : (n : Int) < D.length := by omega
      obtain ⟨d, hx⟩ := get_of_lt hlt
      have hdm := List.mem_of_getElem? hx
      have hdI := HI.out d hdm
      obtain ⟨lg, lo, lc', e2, hcs⟩ := SlAt.dotc (HD.out.kept HK.out) (by omega)
      cases e2
      obtain ⟨c0, c1⟩ := hcs n d hx
      have e1 : IntKind.i64.wrap ((n : Int) + 1) = (n : Int) + 1 := IntWalk.i64_in _ (by omega)
      have TK : Hid (D.take (n + 1) = D.take n ++ [d]) := Lib.hid (by rw [List.take_add_one, hx]; rfl)
      have DM := Lib.hid hdm
      have DI := Lib.hid hdI
      clear hcs hx hdm hdI
      have hB := Blk.new wr 29 #[.int .i64 d.site, .int .i64 d.seq]
      have hk1 : Kept (fun _ => False) wr (wr.alloc (.cells #[.int .i64 d.site, .int .i64 d.seq] 29)) := (Kept.refl _ _).alloc _
      have HB := Lib.hid hB
      have HK1 := Lib.hid (HK.out.trans hk1 fun _ _ h => h)
      clear hB hk1
      go_upto_region 4 with fail
      obtain ⟨z, hz⟩ : ∃ z, wr.heap.size = z := ⟨_, rfl⟩
      obtain ⟨W1, hW1⟩ : ∃ W1, wr.alloc (.cells #[.int .i64 d.site, .int .i64 d.seq] 29) = W1 := ⟨_, rfl⟩
      rw [hW1, hz] at HB
      rw [hW1] at HK1 ⊢
      rw [hz]
      have q1 := HB.out.cell' (i := 1) (v := .int .i64 d.seq) rfl
      clear hz hW1 c0 c1
      go_wp2_with fail
      clear q1
      go_loopw [7] (fun sv w2 => ∃ s : Int, sv = .int .i64 s ∧ s ≤ d.seq ∧ Kept (fun _ => False) w w2 ∧ Blk w2 z 29 #[.int .i64 d.site, .int .i64 d.seq] ∧ ∀ k : Int, s < k → 1 ≤ k → k ≤ d.seq → (⟨d.site, k⟩ : Dot) ∈ kvs.map (·.1)) (fun sv _ => (intOf sv).toNat)
      case atStart => exact ⟨d.seq, rfl, Int.le_refl _, HK1.out, HB.out, fun k h1 _ h2 => by omega⟩
      case round =>
        clear HB HK1
        obtain ⟨s, rfl, hs, hk2, hb2, hall⟩ := hrel
        have HK2 := Lib.hid hk2
        have HB2 := Lib.hid hb2
        have HA := Lib.hid hall
        clear hk2 hb2 hall
        by_cases h0 : 0 < s
        case neg =>
          go_wp2_with fail
          go_roundw
          case rel => exact ⟨n + 1, by go_num, by omega, HK2.out, by
            rw [TK.out]
            intro d' hd' k h1 h2
            rcases List.mem_append.1 hd' with hd' | hd'
            · exact HW.out d' hd' k h1 h2
            · rw [List.mem_singleton.1 hd'] at h2 ⊢
              exact HA.out k (by omega) h1 h2⟩
          case measure => simp [intOf]; omega
        case pos =>
          have q0 := HB2.out.cell' (i := 0) (v := .int .i64 d.site) rfl
          have es : IntKind.i64.wrap (s - 1) = s - 1 := IntWalk.i64_in _ (by have := DI.out; unfold I64 at this; omega)
          obtain ⟨x, hlk, _⟩ := (HM.out.keep HK2.out fun h => h).look ⟨d.site, s⟩
          obtain ⟨⟨xs, xq⟩, ⟨xa, xn, xc⟩, xk, ⟨xt, xi⟩, ⟨xrt, xri⟩, xtx, ⟨ga, gn, gc⟩, xsite⟩ := x
          by_cases hin : (⟨d.site, s⟩ : Dot) ∈ kvs.map (·.1)
          case neg =>
            rw [decide_eq_false hin] at hlk
            have NI : Hid (¬ wholeP (kvs.map (·.1)) D) := Lib.hid fun h9 => hin (h9 d DM.out s (by omega) hs)
            have hlk2 : (Instr.lookup 91 (.map (some b)) (.agg #[.int .i64 d.site, .int .i64 s]) true).run Tryz.prog wr = .ok (.tuple #[.agg #[.int .i64 xs, .int .i64 xq, .slice xa xn xc, .int .i64 xk, .int .i64 xt, .int .i64 xi, .int .i64 xrt, .int .i64 xri, .string xtx, .slice ga gn gc, .int .i64 xsite], .bool false]) wr := hlk
            clear hlk hin
            go_wp2_with fail
            go_ret
            exact ⟨⟨false, rfl, (fun h => by cases h), fun h => absurd h NI.out⟩, HK2.out.alloc _⟩
          case pos =>
            rw [decide_eq_true hin] at hlk
            have IN := Lib.hid hin
            have hlk2 : (Instr.lookup 91 (.map (some b)) (.agg #[.int .i64 d.site, .int .i64 s]) true).run Tryz.prog wr = .ok (.tuple #[.agg #[.int .i64 xs, .int .i64 xq, .slice xa xn xc, .int .i64 xk, .int .i64 xt, .int .i64 xi, .int .i64 xrt, .int .i64 xri, .string xtx, .slice ga gn gc, .int .i64 xsite], .bool true]) wr := hlk
            clear hlk hin
            go_wp2_with fail
            go_roundw
            case rel => exact ⟨s - 1, by go_num, by omega, HK2.out.alloc _, (HB2.out.alloc _), fun k h1 h2 h3 => by
              by_cases hks : k = s
              · rw [hks]; exact IN.out
              · exact HA.out k (by omega) h2 h3⟩
            case measure => simp [intOf]; omega
end Go.Proofs.YtjohljmpcblpjaaGreatDoor.Pa
namespace Go.Proofs.YtjohljmpcblpjaaGreatDoor
open Go.RowKit Go.Proofs.YtjohljmpcblpjaaGreatDoor.St
open Go.Sort (grow)
theorem Grew.grown {w : World} (n : Nat) (os : Array Obj) : Grew w (grow (w.drewN n) os) := ⟨n, os, rfl⟩
/-- a contract at every world that has grown, as the drawn regions ask it -/
theorem grown_call {f : FuncId} {args : Array Value} {w : World} {v : Value} (h : ∀ w', Grew w w' → Calls Tryz.prog f args w' fun e w'' => e = .returned v ∧ Grew w' w'') (n : Nat) (os : Array Obj) :
    Calls Tryz.prog f args (grow (w.drewN n) os) fun e w'' => e = .returned v ∧ ∃ p : GrownBy, w'' = grow (w.drewN p.n) p.os :=
  Calls.grown_of ((h _ (Grew.grown n os)).mono fun _ _ ⟨he, q, os', hq⟩ => ⟨he, q, os', hq⟩)
end Go.Proofs.YtjohljmpcblpjaaGreatDoor
namespace Go.Proofs.YtjohljmpcblpjaaGreatDoor
open Go.RowKit Go.Proofs.YtjohljmpcblpjaaGreatDoor.St
theorem or3 (g : Nat) (x y z : Int) (w : World) (h0 : w.cell? ⟨g, 0, none⟩ = some (.int .i64 x)) (h1 : w.cell? ⟨g, 1, none⟩ = some (.int .i64 y)) (h2 : w.cell? ⟨g, 2, none⟩ = some (.int .i64 z)) :
    Calls Tryz.prog 181 #[.slice (some ⟨g, 0, none⟩) 3 3] w fun e w' => e = .returned (.int .i64 (orL [x, y, z])) ∧ w = w' := by
  go_enter Tryz.func181, Tryz.ntmps181
  go_wp2
  go_loop [8] (fun i => ∃ k : Nat, k ≤ 3 ∧ i = .int .i64 k ∧ orL [x, y, z] = orL ([x, y, z].drop k)) (fun i => 3 - (intOf i).toNat)
  case atStart => exact ⟨0, by omega, rfl, rfl⟩
  case round =>
    obtain ⟨k, hk, rfl, he⟩ := hrel
    have E := Lib.hid he
    clear he
    rcases (show k = 0 ∨ k = 1 ∨ k = 2 ∨ k = 3 by omega) with rfl | rfl | rfl | rfl
    · by_cases hx : x = 0
      · subst hx
        go_wp2
        go_round
        case rel => exact ⟨1, by omega, rfl, rfl⟩
        case measure => simp [intOf]
      · have hxb : (x != 0) = true := by simpa using hx
        go_wp2
        go_ret
        exact ⟨by simp [orL, hx], rfl⟩
    · by_cases hy : y = 0
      · subst hy
        go_wp2
        go_round
        case rel => exact ⟨2, by omega, rfl, E.out.trans (by simp [orL])⟩
        case measure => simp [intOf]
      · have hyb : (y != 0) = true := by simpa using hy
        go_wp2
        go_ret
        exact ⟨by rw [E.out]; simp [orL, hy], rfl⟩
    · by_cases hz : z = 0
      · subst hz
        go_wp2
        go_round
        case rel => exact ⟨3, by omega, rfl, E.out.trans (by simp [orL])⟩
        case measure => simp [intOf]
      · have hzb : (z != 0) = true := by simpa using hz
        go_wp2
        go_ret
        exact ⟨by rw [E.out]; simp [orL, hz], rfl⟩
    · go_wp2
      go_ret
      exact ⟨by rw [E.out]; rfl, rfl⟩
/-- how far two operations are from one another -/
def farV (a b : Dot) (A B : List Dot) : Int := orL [cmpI (sumV A) (sumV B), cmpI a.site b.site, cmpI a.seq b.seq]
theorem SlAt.ent {w : World} {v : Value} {W : List Ent} (h : SlAt entE w v W) (hn : 0 < W.length) : ∃ g o c, v = .slice (some ⟨g, o, none⟩) W.length c ∧ W.length ≤ c ∧ c ≤ maxLen ∧ g < w.heap.size ∧ ∀ (i : Nat) (e : Ent), W[i]? = some e → ∀ (j : Nat) (u : Value), (opA e.v)[j]? = some u →
    w.cell? ⟨g, o + i * 11 + j, none⟩ = some u := by
  obtain ⟨g, o, c, rfl, h1, h2, hg, hc⟩ := h.one hn
  refine ⟨g, o, c, rfl, h1, h2, hg, fun i e he j u hu => ?_⟩
  rw [Nat.add_assoc]
  have hu' : e.v.cells[j]? = some u := by simpa [opA] using hu
  exact hc i e he j u hu'
/-- the place of the first one that is farthest, among the first n -/
def grI (W : List Ent) : Nat → Nat
  | 0 => 0
  | n + 1 => match W[n]?, W[grI W n]? with
    | some e, some f => if 0 < farV e.v.dot f.v.dot e.D f.D then n else grI W n
    | _, _ => grI W n
theorem grI_succ {W : List Ent} {n : Nat} {e f : Ent} (he : W[n]? = some e) (hf : W[grI W n]? = some f) : grI W (n + 1) = if 0 < farV e.v.dot f.v.dot e.D f.D then n else grI W n := by
  show (match W[n]?, W[grI W n]? with
    | some e, some f => if 0 < farV e.v.dot f.v.dot e.D f.D then n else grI W n
    | _, _ => grI W n) = _
  rw [he, hf]
theorem grI_lt (W : List Ent) : ∀ n, n ≤ W.length → 0 < W.length → grI W n < W.length
  | 0, _, h => h
  | n + 1, h, h0 => by
    have ih := grI_lt W n (by omega) h0
    obtain ⟨e, he⟩ := get_of_lt (show n < W.length by omega)
    obtain ⟨f, hf⟩ := get_of_lt ih
    rw [grI_succ he hf]
    split <;> omega
end Go.Proofs.YtjohljmpcblpjaaGreatDoor
