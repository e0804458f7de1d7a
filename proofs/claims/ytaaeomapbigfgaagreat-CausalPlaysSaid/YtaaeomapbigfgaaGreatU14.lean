/- (*hearsayref13.Queue).Offer. -/
import Derived.Test.YtaaeomapbigfgaaGreatU11
import Derived.Test.YtaaeomapbigfgaaGreatU12
import Derived.Test.YtaaeomapbigfgaaGreatU13
namespace Go.Proofs.YtaaeomapbigfgaaGreat
open Go.RowKit Go.Proofs.YtaaeomapbigfgaaGreat.St
open Go.Sort (grow)
/-- what the document's Offer leaves -/
def ROffer (P : Ent → Prop) (w w' : World) (g : Nat) (hold : Int) (s : QS) (F : Nat → Prop) (vv0 : Value) (e : Ent) (c : Int) (r : Ending) : Prop :=
  ∃ (a : Int) (s' : QS) (vv wv ov : Value), r = .returned (.tuple #[.int .i64 a, .int .i64 c]) ∧ OfferIs hold s c e a s' ∧ RAt P w' g hold s' (fun b => F b ∨ w.heap.size ≤ b) vv wv ov ∧ Kept (QF w g F) w w' ∧ (vv = vv0 ∨ ∀ b, vv.ownBlock = some b → w.heap.size ≤ b)
/-- what the loops of Offer stand on: the operations' lists lie ahead of w0, what is written behind it -/
structure Low (w0 : World) (P : Ent → Prop) (w : World) (g : Nat) (F : Nat → Prop) : Prop where
  ent : ∀ e, P e → e.At w0 ∧ e.v.dot.Ok ∧ e.D.length ≤ 1000000
  kept : Kept (fun b => w0.heap.size ≤ b) w0 w
  box : w0.heap.size ≤ g
  fresh : ∀ b, F b → w0.heap.size ≤ b ∧ b < w.heap.size
theorem Low.up {w0 w w' : World} {P : Ent → Prop} {g : Nat} {F : Nat → Prop} (h : Low w0 P w g F) (hk : Kept (QF w g F) w w') : Kept (fun b => w0.heap.size ≤ b) w0 w' :=
  h.kept.trans hk fun b hb e => by
    rcases e with rfl | ⟨e, _⟩
    · exact h.box
    · exact (h.fresh b e).1
theorem Low.deps {w0 w w' : World} {P : Ent → Prop} {g : Nat} {F : Nat → Prop} (h : Low w0 P w g F) (hk : Kept (QF w g F) w w') {e : Ent} (he : P e) : SlAt dotE w' e.v.deps.v e.D :=
  (h.ent e he).1.deps.keep (h.up hk) fun b _ hlt e => by omega
theorem none_take {W : List Ent} {n : Nat} {e : Ent} {p : Ent → Prop} (h : ∀ y ∈ W.take n, p y) (he : W[n]? = some e) (hp : p e) : ∀ y ∈ W.take (n + 1), p y := fun y hy => by
  rw [List.take_add_one, he] at hy
  rcases List.mem_append.1 hy with hy | hy
  · exact h y hy
  · obtain rfl : y = e := by simpa using hy
    exact hp
/-- what the search for the farthest one has found -/
def FarIs (P : Ent → Prop) (W : List Ent) (e : Ent) (n : Nat) (k : Int) (f : Ent) : Prop :=
  ((k = -1 ∧ f = e) ∨ ∃ m : Nat, k = m ∧ m < n ∧ W[m]? = some f) ∧ (∀ y ∈ W.take n, NoFar y f) ∧ NoFar e f ∧ P f
theorem FarIs.far {P : Ent → Prop} {W : List Ent} {e f y : Ent} {n : Nat} {k : Int} (h : FarIs P W e n k f) (hy : W[n]? = some y) (hf : 0 < farV y.v.dot f.v.dot y.D f.D) (hP : P y) : FarIs P W e (n + 1) n y :=
  ⟨.inr ⟨n, rfl, Nat.lt_succ_self n, hy⟩, none_take (fun z hz => (h.2.1 z hz).trans (NoFar.of_far hf)) hy (NoFar.refl _), h.2.2.1.trans (NoFar.of_far hf), hP⟩
theorem FarIs.near {P : Ent → Prop} {W : List Ent} {e f y : Ent} {n : Nat} {k : Int} (h : FarIs P W e n k f) (hy : W[n]? = some y) (hf : ¬ 0 < farV y.v.dot f.v.dot y.D f.D) : FarIs P W e (n + 1) k f :=
  ⟨h.1.imp id (fun ⟨m, h1, h2, h3⟩ => ⟨m, h1, by omega, h3⟩), none_take h.2.1 hy hf, h.2.2⟩
theorem FarIs.all {P : Ent → Prop} {W : List Ent} {e f : Ent} {k : Int} (h : FarIs P W e W.length k f) : ∀ y ∈ W ++ [e], NoFar y f := fun y hy => by
  rcases List.mem_append.1 hy with hy | hy
  · exact h.2.1 y (by rw [List.take_length]; exact hy)
  · rw [List.mem_singleton.1 hy]; exact h.2.2.1
theorem nodup_snoc {V : List Dot} {W : List Ent} {x : OpV} {D : List Dot} {G : List Run} (h : (W.map (·.v.dot)).Nodup) (hn : ¬ (hasV V x.dot ∨ hasDot W x.dot = true)) : ((W ++ [(⟨x, D, G⟩ : Ent)]).map (·.v.dot)).Nodup := by
  rw [List.map_append, List.nodup_append]
  refine ⟨h, by simp, fun a ha b hb e => hn (.inr ?_)⟩
  obtain ⟨y, hy, rfl⟩ := List.mem_map.1 ha
  have hb : b = x.dot := by simpa using hb
  exact List.any_eq_true.2 ⟨y, hy, decide_eq_true (e.trans hb)⟩
/-- what is proved by itself, behind -/
structure Later (Q : Prop) : Prop where
  out : Q
/-- how many wait at the document's Queue -/
theorem rM_eq {P : Ent → Prop} {w : World} {g : Nat} {hold : Int} {s : QS} {F : Nat → Prop} {vv wv ov : Value} (h : RAt P w g hold s F vv wv ov) : qM g w = s.W.length := by
  obtain ⟨a, c, rfl⟩ := owns_sl h.wait
  unfold qM
  rw [show w.cell? ⟨g, 2, none⟩ = some (.slice a s.W.length c) from h.head.cell' (i := 2) rfl]
set_option maxRecDepth 100000 in
set_option maxHeartbeats 16000000 in
noncomputable def roffer0 : PSigma fun Q1 : Prop => PSigma fun Q2 : Prop => Later Q1 → Later Q2 → ∀ (w0 w : World) (P : Ent → Prop) (g : Nat) (hold : Int) (s : QS) (F : Nat → Prop) (vv wv ov : Value) (x : OpV) (D : List Dot) (G : List Run) (c : Int) (_hq : RAt P w g hold s F vv wv ov) (_hlow : Low w0 P w g F) (_hP : c = 0 → P ⟨x, D, G⟩) (_hWl : s.W.length ≤ 10000) (_hOl : s.O.length ≤ 100000) (_hnd : (s.W.map (·.v.dot)).Nodup) (_hh0 : hold ≤ 256)
    (_hchk : ∀ w', Kept (fun _ => False) w w' → Calls Tryz.prog 53 #[.agg (opA x)] w' fun r w'' => r = .returned (.int .i64 c) ∧ Kept (fun _ => False) w' w''),
    Calls Tryz.prog 33 #[.pointer (some ⟨g, 0, none⟩), .agg (opA x)] w fun r w' => ROffer P w w' g hold s F vv ⟨x, D, G⟩ c r := ⟨_, _, fun cut1 cut2 => by
  intro w0 w P g hold s F vv wv ov x D G c hq hlow hP hWl hOl hnd hh0 hchk
  have hmix : Tryz.prog.follows .mixedOrders = true := by kernel_rfl
  have hB := Blk.new w 42 (opA x)
  have k0 : Kept (fun _ => False) w (w.alloc (.cells (opA x) 42)) := (Kept.refl _ _).alloc _
  have HQ := Lib.hid hq
  have LOW := Lib.hid hlow
  have HC := Lib.hid hchk
  have HP := Lib.hid hP
  have ND := Lib.hid hnd
  have HWL := Lib.hid hWl
  have HOL := Lib.hid hOl
  have HH := Lib.hid hh0
  clear hq hlow hchk hP hnd hWl hOl hh0
  go_enter Tryz.func33, Tryz.ntmps33
  go_upto_region 1 with fail
  generalize w.alloc (.cells (opA x) 42) = wa at *
  have HB0 := Lib.hid hB
  have K0 := Lib.hid k0
  clear hB k0
  go_upto_region 2 with (first
    | (refine wpList_load_row rfl 42 _ rfl w.heap.size rfl 42 _ (0, 0) _ HB0.out Tryz.underlying42 rfl (by rw [opA_size]; exact size_op) ?_)
    | (go_at_call 53; refine (HC.out _ K0.out).mono ?_; rintro r w1 ⟨rfl, hk1⟩; have HB1 := Lib.hid (hk1.blk (fun h => h) HB0.out); have K1 := Lib.hid (K0.out.trans hk1 (fun _ _ h => h))))
  clear hk1 HB0 K0 HC
  by_cases hc : c = 0
  case neg =>
    have hcb : (c != 0) = true := by simpa using hc
    have HCN := Lib.hid hc
    clear hc
    go_wp2_with fail
    go_ret2
    exact ⟨0, s, vv, wv, ov, rfl, .inl ⟨HCN.out, rfl, rfl⟩, ((HQ.out.kept K1.out).wider (fun _ h => .inl h)), K1.out.mono (fun _ _ h => h.elim), .inl rfl⟩
  case pos =>
    subst hc
    have PE := Lib.hid (HP.out rfl)
    have HX := Lib.hid (LOW.out.ent _ PE.out).2.1
    go_upto_region 4 with fail
    have z1 : w.heap.size < w1.heap.size := HB1.out.lt
    have zg : g < w.heap.size := HQ.out.head.lt
    have Q1 := Lib.hid (HQ.out.kept K1.out)
    have q1 := cell_grown (w := w1) (by show g < _; omega) (show w1.cell? ⟨g, 1, none⟩ = some vv from Q1.out.head.cell' (i := 1) rfl)
    have x0 := cell_grown (w := w1) (by show w.heap.size < _; omega) (show w1.cell? ⟨w.heap.size, 0, none⟩ = some (.int .i64 x.dot.site) from HB1.out.cell' (i := 0) rfl)
    have x1 := cell_grown (w := w1) (by show w.heap.size < _; omega) (show w1.cell? ⟨w.heap.size, 1, none⟩ = some (.int .i64 x.dot.seq) from HB1.out.cell' (i := 1) rfl)
    have HV := Lib.hid (fun (w' : World) (hk : Grew w1 w') => rhasV_grew ((owns_slAt (E := dotE) Q1.out.vec).kept hk.kept) (by have := Q1.out.vlen; omega) x.dot)
    by_cases hv1 : hasV s.V x.dot
    · rw [decide_eq_true hv1] at HV
      have HV1 := Lib.hid hv1
      clear hv1
      go_quiet_grown (first
        | (go_at_call 23; exact grown_call HV.out _ _))
      go_wp2_with fail
      go_ret2
      exact ⟨3, s, vv, wv, ov, rfl, .inr (.inl ⟨rfl, .inl HV1.out, rfl, rfl⟩), ((Q1.out.kept (Grew.grown _ _).kept).wider (fun _ h => .inl h)), (K1.out.trans (Grew.grown _ _).kept (fun _ _ h => h)).mono (fun _ _ h => h.elim), .inl rfl⟩
    rw [decide_eq_false hv1] at HV
    have HV1 := Lib.hid hv1
    clear hv1
    go_quiet_grown (first
      | (go_at_call 23; exact grown_call HV.out _ _))
    have HB2 := Lib.hid ((Grew.grown (w := w1) nq osq).kept.blk (fun h => h) HB1.out)
    have K2 := Lib.hid (K1.out.trans (Grew.grown (w := w1) nq osq).kept (fun _ _ h => h))
    clear q1 x0 x1 HV Q1 K1 HB1
    generalize grow (w1.drewN nq) osq = w2 at *
    have QA := Lib.hid (HQ.out.kept K2.out)
    obtain ⟨wa1, wc1, hwv⟩ := owns_sl HQ.out.wait
    subst hwv
    go_wp2_with fail
    go_loopw [7] (fun iv wr => ∃ n : Nat, iv = .int .i64 n ∧ n ≤ s.W.length ∧ (∀ e ∈ s.W.take n, e.v.dot ≠ x.dot) ∧ Kept (fun _ => False) w2 wr) (fun iv _ => s.W.length - (intOf iv).toNat)
    case atStart => exact ⟨0, rfl, Nat.zero_le _, fun e he => by simp at he, Kept.refl _ _⟩
    case round =>
      obtain ⟨n, rfl, hn, hnone, hk⟩ := hrel
      have hn0 : (0 : Int) ≤ n := by omega
      have NONE := Lib.hid hnone
      have KR := Lib.hid (K2.out.trans hk (fun _ _ h => h))
      have QR := Lib.hid (HQ.out.kept KR.out)
      have BR := Lib.hid (hk.blk (fun h => h) HB2.out)
      have HK := Lib.hid hk
      have q2 : wr.cell? ⟨g, 2, none⟩ = some (.slice wa1 s.W.length wc1) := QR.out.head.cell' (i := 2) rfl
      have hWl := HWL.out
      clear hnone hk
      by_cases hlt : n < s.W.length
      case pos =>
        have hltI : (n : Int) < s.W.length := by omega
        obtain ⟨e, he⟩ := get_of_lt hlt
        obtain ⟨hl0, ⟨_, hno⟩ | ⟨b, cap, hv, hz0, hO⟩⟩ := own_of (E := entE) QR.out.wait
        · rw [hno] at hlt; simp at hlt
        injection hv with ha6 hl6 hc6
        subst ha6
        obtain rfl : cap = wc1 := hc6.symm
        clear hl0 hz0 hl6 hc6
        have c0 : wr.cell? ⟨b, n * 11, none⟩ = some (.int .i64 e.v.dot.site) := OwnAt.ent hO he (j := 0) rfl
        have c1 : wr.cell? ⟨b, n * 11 + 1, none⟩ = some (.int .i64 e.v.dot.seq) := OwnAt.ent hO he (j := 1) rfl
        have x0 : wr.cell? ⟨w.heap.size, 0, none⟩ = some (.int .i64 x.dot.site) := BR.out.cell' (i := 0) rfl
        have x1 : wr.cell? ⟨w.heap.size, 1, none⟩ = some (.int .i64 x.dot.seq) := BR.out.cell' (i := 1) rfl
        have HE := Lib.hid he
        clear hO he
        obtain ⟨y, hy⟩ : ∃ y, e.v.dot = y := ⟨_, rfl⟩
        rw [hy] at c0 c1
        have HY := Lib.hid hy
        clear hy
        rcases eq_dot y x.dot with hxy | ⟨hne, h1⟩ | ⟨hne, h1, h2⟩
        · have h1 : (y.site == x.dot.site) = true := by rw [hxy]; simp
          have h2 : (y.seq == x.dot.seq) = true := by rw [hxy]; simp
          have HXY := Lib.hid hxy
          clear hxy
          go_wp2_with fail
          go_region
          all_goals
            go_wp2_with fail
            go_ret2
            exact ⟨3, s, vv, _, ov, rfl, .inr (.inl ⟨rfl, .inr (List.any_eq_true.2 ⟨e, List.mem_of_getElem? HE.out, decide_eq_true (HY.out.trans HXY.out)⟩), rfl, rfl⟩), ((QR.out.kept (Kept.refl _ _).drew).wider (fun _ h => .inl h)), (KR.out.drew).mono (fun _ _ h => h.elim), .inl rfl⟩
        · have HNE := Lib.hid hne
          clear hne
          go_wp2_with fail
          go_region
          all_goals
            go_wp2_with fail
            go_roundw
            case rel => exact ⟨n + 1, by go_num, by omega, none_take NONE.out HE.out (by rw [HY.out]; exact HNE.out), HK.out.drew⟩
            case measure => simp [intOf] <;> omega
        · have HNE := Lib.hid hne
          clear hne
          go_wp2_with fail
          go_region
          all_goals
            go_wp2_with fail
            go_roundw
            case rel => exact ⟨n + 1, by go_num, by omega, none_take NONE.out HE.out (by rw [HY.out]; exact HNE.out), HK.out.drew⟩
            case measure => simp [intOf] <;> omega
      case neg =>
        have hnl : ¬ (n : Int) < s.W.length := by omega
        have HNO : Hid (¬ (hasV s.V x.dot ∨ hasDot s.W x.dot = true)) := Lib.hid (fun h => by
          rcases h with h | h
          · exact HV1.out h
          · obtain ⟨e, he, h⟩ := List.any_eq_true.1 h
            exact NONE.out e (by rw [List.take_of_length_le (by omega)]; exact he) (of_decide_eq_true h))
        have DP := Lib.hid (LOW.out.deps (KR.out.mono (fun _ _ h => h.elim)) PE.out)
        have CAN := Lib.hid (rcan_grew (x := x) QR.out.head (owns_slAt (E := dotE) QR.out.vec) DP.out (by have := QR.out.vlen; omega) (by have h : D.length ≤ 1000000 := (LOW.out.ent _ PE.out).2.2; show D.length ≤ 1000000000; omega))
        go_upto_region 11 with fail
        clear NONE HV1 q2 HB2 K2 QA HK
        by_cases hcan : Ent.can s.V x.dot D
        case pos =>
          rw [decide_eq_true hcan] at CAN
          have NC := Lib.hid hcan
          have hadd : whyAdd s.V x.dot = 0 := add_can HX.out hcan
          clear hcan
          (rename_i zQrOffer_1 zQrOffer_2 zQrOffer_3 zQrOffer_4 zQrOffer_5 zQrOffer_6 zQrOffer_7 zQrOffer_8 zQrOffer_9; revert w0 w P g hold s F vv ov x D G hmix LOW ND HWL HOL HH wa w1 zQrOffer_1 PE HX z1 zg nq osq w2 wa1 wc1 HQ zQrOffer_2 HP wr u4 u5 u25 u26 u27 u28 u29 u30 u31 u32 u33 u34 u35 u36 u37 u38 u39 u40 u41 u42 u43 u44 n hn hn0 KR QR BR hWl hlt hnl HNO DP CAN zQrOffer_3 zQrOffer_4 zQrOffer_5 zQrOffer_6 zQrOffer_7 zQrOffer_8 zQrOffer_9 NC hadd; exact cut1.out)
        case neg =>
          rw [decide_eq_false hcan] at CAN
          have NC := Lib.hid hcan
          clear hcan
          (rename_i zQrOffer_1 zQrOffer_2 zQrOffer_3 zQrOffer_4 zQrOffer_5 zQrOffer_6 zQrOffer_7 zQrOffer_8 zQrOffer_9; revert w0 w P g hold s F vv ov x D G hmix LOW ND HWL HOL HH wa w1 zQrOffer_1 PE HX z1 zg nq osq w2 wa1 wc1 HQ zQrOffer_2 HP wr u4 u5 u25 u26 u27 u28 u29 u30 u31 u32 u33 u34 u35 u36 u37 u38 u39 u40 u41 u42 u43 u44 n hn hn0 KR QR BR hWl hlt hnl HNO DP CAN zQrOffer_3 zQrOffer_4 zQrOffer_5 zQrOffer_6 zQrOffer_7 zQrOffer_8 zQrOffer_9 NC; exact cut2.out)
  ⟩

set_option maxRecDepth 100000 in
set_option maxHeartbeats 16000000 in
theorem roffer1 : roffer0.1 := by
  intro w0 w P g hold s F vv ov x D G hmix LOW ND HWL HOL HH wa w1 zQrOffer_1 PE HX z1 zg nq osq w2 wa1 wc1 HQ zQrOffer_2 HP wr u4 u5 u25 u26 u27 u28 u29 u30 u31 u32 u33 u34 u35 u36 u37 u38 u39 u40 u41 u42 u43 u44 n hn hn0 KR QR BR hWl hlt hnl HNO DP CAN zQrOffer_3 zQrOffer_4 zQrOffer_5 zQrOffer_6 zQrOffer_7 zQrOffer_8 zQrOffer_9 NC hadd
  have ADD := Lib.hid hadd
  clear hadd
  have hOl := HOL.out
  go_upto_region 12 with (first
    | (refine wpList_load_row rfl 42 _ rfl w.heap.size rfl 42 _ (0, 0) _ BR.out Tryz.underlying42 rfl (by rw [opA_size]; exact size_op) ?_)
    | (go_at_call 55; refine CAN.out.mono ?_; rintro r w5 ⟨rfl, hg5⟩))
  have Q5 := Lib.hid (QR.out.kept hg5.kept)
  have B5 := Lib.hid (hg5.kept.blk (fun h => h) BR.out)
  have K5 := Lib.hid (KR.out.trans hg5.kept (fun _ _ h => h))
  have HDEL := Lib.hid (rdeliver_any (e := ⟨x, D, G⟩) Q5.out.head (owns_slAt (E := dotE) Q5.out.vec) (by have := Q5.out.vlen; omega) Q5.out.out (by have := Q5.out.olen; omega) ADD.out)
  clear hg5 QR BR KR CAN
  go_upto_region 13 with (first
    | (refine wpList_load_row rfl 42 _ rfl w.heap.size rfl 42 _ (0, 0) _ B5.out Tryz.underlying42 rfl (by rw [opA_size]; exact size_op) ?_)
    | (go_at_call 56; refine HDEL.out.mono ?_; rintro r w6 ⟨rfl, v', ov', h1, hv, hO, hb, hk⟩))
  obtain ⟨QD, KD⟩ := Q5.out.delivered PE.out h1 hv hO hb hk (by omega)
  have K6 := Lib.hid ((K5.out.mono (S' := QF w g F) (fun _ _ h => h.elim)).trans KD (fun b hb h => h.back K5.out hb))
  have Q6 := Lib.hid (QD.wider (F' := fun b => F b ∨ w.heap.size ≤ b) (fun b h => h.imp id (fun h => Nat.le_trans K5.out.size h)))
  have NV := Lib.hid (fun b hb => Nat.le_trans K5.out.size (owns_new hv b hb))
  clear h1 hv hO hb hk QD KD HDEL B5 Q5 K5
  have HNX := Lib.hid (rnext_any Q6.out.head (owns_slAt (E := dotE) Q6.out.vec) (by have := Q6.out.vlen; omega) Q6.out.wait (fun e he => ⟨LOW.out.deps K6.out (Q6.out.ents e (List.mem_append.2 (.inl he))), (LOW.out.ent e (Q6.out.ents e (List.mem_append.2 (.inl he)))).2.2⟩) (by have := Q6.out.wlen; omega))
  go_wp2_with (go_at_call 57; refine HNX.out.mono ?_; rintro r w7 ⟨kn, rfl, hg7, hnx7⟩)
  go_loopw [8] (fun iv wr => ∃ (k : Int) (s' : QS) (vv wv ov : Value), iv = .int .i64 k ∧ NextIs s'.V s'.W k ∧ RAt P wr g hold s' (fun b => F b ∨ w.heap.size ≤ b) vv wv ov ∧ Kept (QF w g F) w wr ∧ drain s'.W.length s' = drain s.W.length ⟨addV s.V x.dot, s.W, s.O ++ [⟨x, D, G⟩]⟩ ∧ s'.W.length ≤ s.W.length ∧ s'.O.length + s'.W.length = s.O.length + 1 + s.W.length ∧ ∀ b, vv.ownBlock = some b → w.heap.size ≤ b) (fun _ wr => qM g wr)
  case atStart => exact ⟨kn, ⟨addV s.V x.dot, s.W, s.O ++ [⟨x, D, G⟩]⟩, _, _, _, rfl, hnx7, Q6.out.kept hg7.kept, K6.out.trans hg7.kept (fun _ _ h => h.elim), rfl, Nat.le_refl _, by simp, NV.out⟩
  case round =>
    clear NV hg7 hnx7 HNX Q6 K6
    obtain ⟨k, s', vv', wv', ov', rfl, hnx, hQ, hK, hdr, hl1, hl2, hnv⟩ := hrel
    have NV := Lib.hid hnv
    clear hnv
    have QS' := Lib.hid hQ
    have K8 := Lib.hid hK
    have DR := Lib.hid hdr
    have L1 := Lib.hid hl1
    have L2 := Lib.hid hl2
    have MX := Lib.hid (rM_eq hQ)
    clear hQ hK hdr hl1 hl2
    rcases hnx with ⟨hk1, hno⟩ | ⟨n, e, rfl, he, hcan, hnone⟩
    · have hkn : ¬ (0 : Int) ≤ k := by omega
      have NO := Lib.hid hno
      clear hno hk1
      go_wp2_with fail
      go_ret2
      exact ⟨1, s', _, _, _, rfl, .inr (.inr (.inl ⟨rfl, HNO.out, NC.out, rfl, by rw [← DR.out]; exact (drain_none NO.out).symm⟩)), QS'.out, K8.out, .inr NV.out⟩
    · have hn0 : (0 : Int) ≤ n := by omega
      have hlt := (List.getElem?_eq_some_iff.1 he).1
      have hltI : (n : Int) < s'.W.length := by omega
      obtain ⟨hl0, ⟨_, hno⟩ | ⟨b, cap, hv, hz0, hO⟩⟩ := own_of (E := entE) QS'.out.wait
      · rw [hno] at hlt; simp at hlt
      subst hv
      have q2 : wr.cell? ⟨g, 2, none⟩ = some (.slice (some ⟨b, 0, none⟩) s'.W.length cap) := QS'.out.head.cell' (i := 2) rfl
      have PEe := Lib.hid (QS'.out.ents e (List.mem_append.2 (.inl (List.mem_of_getElem? he))))
      have ADDe := Lib.hid (add_can (LOW.out.ent e PEe.out).2.1 hcan)
      have NXT := Lib.hid (And.intro he (And.intro hcan hnone))
      have OW := Lib.hid hO
      have A1 := Lib.hid (Blk.new wr 42 zeroOp)
      clear he hcan hnone hO hl0 hz0
      go_upto_region 17 with (first
        | (refine wpList_load_elem (E := entE) rfl 42 _ rfl (i := n) rfl OW.out NXT.out.1 Tryz.underlying42 rfl size_op ?_)
        | (refine wpList_store_row rfl 42 _ _ rfl wr.heap.size (opA e.v) rfl rfl 42 zeroOp A1.out (by rw [opA_size]; exact size_op) (by rw [opA_size]; rfl) (opA_one _) ?_))
      have kA : Kept (fun _ => False) wr ((wr.alloc (.cells zeroOp 42)).setRow wr.heap.size (opA e.v)) := ((Kept.refl _ _).alloc _).setRow (fun h => by omega) _
      have B1 := Lib.hid (A1.out.row (opA e.v))
      have Q9 := Lib.hid (QS'.out.kept kA)
      have OW9 := Lib.hid (OW.out.keep kA (fun h => h))
      have K9 := Lib.hid (K8.out.trans kA (fun _ _ h => h.elim))
      have hgr : g < wr.heap.size := QS'.out.head.lt
      clear A1 kA OW q2
      generalize wr.heap.size = bx at *
      generalize (wr.alloc (.cells zeroOp 42)).setRow bx (opA e.v) = w9 at *
      have q2 : w9.cell? ⟨g, 2, none⟩ = some (.slice (some ⟨b, 0, none⟩) s'.W.length cap) := Q9.out.head.cell' (i := 2) rfl
      have f2 := Q9.out.head.frozen 2
      have HCU := Lib.hid (rcut_any OW9.out hlt (by have := Q9.out.wlen; omega))
      have zw := K9.out.size
      have hLOW := LOW.out.box
      go_upto_region 18 with (go_at_call 58; refine HCU.out.mono ?_; rintro r w10 ⟨v10, rfl, ho10, hk10⟩; obtain ⟨va, vc, rfl⟩ := owns_sl ho10; have q2 := hk10.cell q2; have f2 := (hk10.blk (fun h => h) Q9.out.head).frozen 2)
      obtain ⟨QG, KG⟩ := Q9.out.rewait (fun y hy => Q9.out.ents y (List.mem_append.2 (.inl (List.mem_of_mem_eraseIdx hy)))) ho10 hk10 (by have h1 := List.length_eraseIdx_le s'.W n; have h2 := Q9.out.wlen; omega)
      have B2 := Lib.hid (((Kept.refl (fun x => x = g) w10).setCell (p := ⟨g, 2, none⟩) (fun _ => rfl) (.slice va (s'.W.eraseIdx n).length vc)).blk (fun h => by have h : bx = g := h; omega) (hk10.blk (fun h => h) B1.out))
      have K10 := Lib.hid (K9.out.trans KG (fun b hb h => h.low K9.out hb))
      have QG2 := Lib.hid (QG.wider (F' := fun b => F b ∨ w.heap.size ≤ b) (fun b h => h.elim id (fun h => .inr (Nat.le_trans zw h))))
      clear q2 f2 QG KG ho10 hk10 HCU B1 Q9 OW9
      generalize w10.setCell ⟨g, 2, none⟩ (.slice va (s'.W.eraseIdx n).length vc) = w11 at *
      have HDEL := Lib.hid (rdeliver_any (e := e) QG2.out.head (owns_slAt (E := dotE) QG2.out.vec) (by have := QG2.out.vlen; omega) QG2.out.out (by have := QG2.out.olen; omega) ADDe.out)
      go_upto_region 15 with (first
        | (refine wpList_load_row rfl 42 _ rfl bx rfl 42 _ (0, 0) _ B2.out Tryz.underlying42 rfl (by rw [opA_size]; exact size_op) ?_)
        | (go_at_call 56; refine HDEL.out.mono ?_; rintro r w12 ⟨rfl, v12, ov12, h1, hv, hO, hb, hk⟩))
      have QGo := QG2.out
      obtain ⟨QD, KD⟩ := QGo.delivered PEe.out h1 hv hO hb hk (by show s'.O.length + 1 ≤ 500000; have := L2.out; have := HWL.out; omega)
      have zw2 := K10.out.size
      have K12 := Lib.hid (K10.out.trans KD (fun b hb h => h.low K10.out hb))
      have Q12 : Hid (RAt P w12 g hold (s'.take n e) (fun b => F b ∨ w.heap.size ≤ b) _ _ _) := Lib.hid (QD.wider (fun b h => h.elim id (fun h => .inr (by omega))))
      have NV2 := Lib.hid (fun b hb => Nat.le_trans zw2 (owns_new hv b hb))
      clear h1 hv hO hb hk QD KD HDEL B2 QGo
      have HNX := Lib.hid (rnext_any Q12.out.head (owns_slAt (E := dotE) Q12.out.vec) (by have := Q12.out.vlen; omega) Q12.out.wait (fun e he => ⟨LOW.out.deps K12.out (Q12.out.ents e (List.mem_append.2 (.inl he))), (LOW.out.ent e (Q12.out.ents e (List.mem_append.2 (.inl he)))).2.2⟩) (by have := Q12.out.wlen; omega))
      go_wp2_with (go_at_call 57; refine HNX.out.mono ?_; rintro r w13 ⟨kn2, rfl, hg13, hnx13⟩)
      have hel : (s'.W.eraseIdx n).length + 1 = s'.W.length := by rw [List.length_eraseIdx, if_pos hlt]; omega
      have Q13 := Q12.out.kept hg13.kept
      have hM2 := rM_eq Q13
      go_roundw
      case rel =>
        refine ⟨kn2, s'.take n e, _, _, _, rfl, hnx13, Q13, K12.out.trans hg13.kept (fun _ _ h => h.elim), ?_, ?_, ?_, NV2.out⟩
        · rw [← DR.out]
          exact (drain_some (n := s'.W.length - 1) (by omega) NXT.out.1 NXT.out.2.1 NXT.out.2.2).symm
        · show (s'.W.eraseIdx n).length ≤ _
          have := L1.out
          omega
        · show (s'.O ++ [e]).length + (s'.W.eraseIdx n).length = _
          have := L2.out
          rw [List.length_append, List.length_singleton]
          omega
      case measure =>
        rw [hM2, MX.out]
        show (s'.W.eraseIdx n).length < _
        omega

end Go.Proofs.YtaaeomapbigfgaaGreat
