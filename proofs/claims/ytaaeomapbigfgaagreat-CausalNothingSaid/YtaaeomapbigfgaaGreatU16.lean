/- (*hearsayref13.Queue).Take. (*causal.Queue).Free, Vector; causal.New. hearsayref7.Merge. A vector that is right is what it says; what a Queue keeps that is offered any operations: plainly. -/
import Derived.Test.YtaaeomapbigfgaaGreatU15
import Derived.Test.YtaaeomapbigfgaaGreatU7
import Derived.Test.YtaaeomapbigfgaaGreatU11
namespace Go.Proofs.YtaaeomapbigfgaaGreat
open Go.RowKit Go.Proofs.YtaaeomapbigfgaaGreat.St
open Go.Sort (grow)
set_option maxRecDepth 100000 in
set_option maxHeartbeats 4000000 in
theorem rtake_any {w : World} {g : Nat} {h0 vv wv ov : Value} {O : List Ent} (hq : Blk w g 51 #[h0, vv, wv, ov]) (hO : OutAt entE w 42 ov O) (hl : O.length ≤ 1000000) :
    Calls Tryz.prog 36 #[.pointer (some ⟨g, 0, none⟩)] w fun r w' => (O = [] ∧ r = .returned (.tuple #[.agg zeroOp, .bool false]) ∧ Kept (fun _ => False) w w') ∨
      ∃ e O' ov', O = e :: O' ∧ r = .returned (.tuple #[.agg (opA e.v), .bool true]) ∧ Blk w' g 51 #[h0, vv, wv, ov'] ∧ OutAt entE w' 42 ov' O' ∧ ov'.ownBlock = ov.ownBlock ∧ Kept (fun x => x = g) w w' := by
  have hB := Blk.new w 42 zeroOp
  have k0 : Kept (fun _ => False) w (w.alloc (.cells zeroOp 42)) := (Kept.refl _ _).alloc _
  have hgw := hq.lt
  have HQ := Lib.hid (k0.blk (fun h => h) hq)
  have HO := Lib.hid (hO.keep k0 (fun _ _ _ h => h))
  have OLT := Lib.hid (fun (hn : O ≠ []) => OutAt.lt_of hO hn)
  obtain ⟨oa, oc, rfl⟩ := hO.len
  clear hq hO
  go_enter Tryz.func36, Tryz.ntmps36
  go_upto_region 1 with fail
  have K0 := Lib.hid k0
  generalize w.alloc (.cells zeroOp 42) = w0 at *
  have B0 := Lib.hid hB
  have q3 : w0.cell? ⟨g, 3, none⟩ = some (.slice oa O.length oc) := HQ.out.cell' (i := 3) rfl
  clear k0 hB
  cases O with
  | nil =>
    have q3' : w0.cell? ⟨g, 3, none⟩ = some (.slice oa 0 oc) := q3
    clear q3
    go_wp2_with (first
      | (refine wpList_store_row rfl 42 _ _ rfl w.heap.size zeroOp rfl rfl 42 zeroOp B0.out size_op rfl (by simp [zeroOp, Value.oneCell']) ?_))
    exact bodyPost_ret (Blk.result2 rfl _ (B0.out.row _) rfl Tryz.underlying42 rfl size_op) rfl ⟨rfl, K0.out.setRow (fun h => by omega) _⟩
  | cons e O =>
    rcases HO.out with ⟨_, _, h⟩ | ⟨b, cap, R, hv, hRc, hOw⟩
    · cases h
    injection hv with e1 e0 e2
    subst e1 e2
    clear e0
    have hob := hOw.lt
    have BLT := Lib.hid (OLT.out (by simp) b rfl)
    have hle := hOw.le
    have hll : (R ++ e :: O).length = R.length + O.length + 1 := by simp; omega
    rw [hll] at hle
    have hx : (R ++ e :: O)[R.length]? = some e := by simp
    have c0 : w0.cell? ⟨b, R.length * 11, none⟩ = some (.int .i64 e.v.dot.site) := OwnAt.ent hOw hx (j := 0) rfl
    have c1 : w0.cell? ⟨b, R.length * 11 + 1, none⟩ = some (.int .i64 e.v.dot.seq) := OwnAt.ent hOw hx (j := 1) rfl
    have c2 : w0.cell? ⟨b, R.length * 11 + 2, none⟩ = some (.slice e.v.deps.a e.v.deps.n e.v.deps.c) := OwnAt.ent hOw hx (j := 2) rfl
    have c3 : w0.cell? ⟨b, R.length * 11 + 3, none⟩ = some (.int .i64 e.v.kind) := OwnAt.ent hOw hx (j := 3) rfl
    have c4 : w0.cell? ⟨b, R.length * 11 + 4, none⟩ = some (.int .i64 e.v.id.t) := OwnAt.ent hOw hx (j := 4) rfl
    have c5 : w0.cell? ⟨b, R.length * 11 + 5, none⟩ = some (.int .i64 e.v.id.s) := OwnAt.ent hOw hx (j := 5) rfl
    have c6 : w0.cell? ⟨b, R.length * 11 + 6, none⟩ = some (.int .i64 e.v.ref.t) := OwnAt.ent hOw hx (j := 6) rfl
    have c7 : w0.cell? ⟨b, R.length * 11 + 7, none⟩ = some (.int .i64 e.v.ref.s) := OwnAt.ent hOw hx (j := 7) rfl
    have c8 : w0.cell? ⟨b, R.length * 11 + 8, none⟩ = some (.string e.v.text) := OwnAt.ent hOw hx (j := 8) rfl
    have c9 : w0.cell? ⟨b, R.length * 11 + 9, none⟩ = some (.slice e.v.gone.a e.v.gone.n e.v.gone.c) := OwnAt.ent hOw hx (j := 9) rfl
    have c10 : w0.cell? ⟨b, R.length * 11 + 10, none⟩ = some (.int .i64 e.v.site) := OwnAt.ent hOw hx (j := 10) rfl
    have HR := Lib.hid hRc
    have HOW := Lib.hid hOw
    have HL := Lib.hid hle
    have hol : (e :: O).length = O.length + 1 := rfl
    rw [hol] at q3
    have B1 := Lib.hid (Blk.new w0 42 (opA e.v))
    have k1 : Kept (fun _ => False) w0 (w0.alloc (.cells (opA e.v) 42)) := (Kept.refl _ _).alloc _
    obtain ⟨m, hm⟩ : ∃ m, cap - R.length = m + 1 := ⟨cap - R.length - 1, by omega⟩
    have HM := Lib.hid hm
    obtain ⟨o, ho⟩ : ∃ o, R.length * 11 = o := ⟨_, rfl⟩
    have HOO := Lib.hid ho
    have ho2 : R.length * entE.k = o := ho
    rw [hm, ho2] at q3
    rw [ho] at c0 c1 c2 c3 c4 c5 c6 c7 c8 c9 c10
    have hml : (O.length : Int) + 1 ≤ m + 1 := by omega
    have hm63 : (m : Int) + 1 ≤ 9223372036854775807 := by have := hle.2; unfold maxLen at this; omega
    have hoL : (0 : Int) ≤ O.length := by omega
    clear hx hOw hRc hll hm ho ho2 hle hol hob
    have hne : ((O.length : Int) + 1 == 0) = false := beq_eq_false_iff_ne.2 (by omega)
    clear hl
    go_upto_region 4 with fail
    have e1 : w0.alloc (.cells #[.int .i64 e.v.dot.site, .int .i64 e.v.dot.seq, .slice e.v.deps.a e.v.deps.n e.v.deps.c, .int .i64 e.v.kind, .int .i64 e.v.id.t, .int .i64 e.v.id.s, .int .i64 e.v.ref.t, .int .i64 e.v.ref.s, .string e.v.text, .slice e.v.gone.a e.v.gone.n e.v.gone.c, .int .i64 e.v.site] 42) = w0.alloc (.cells (opA e.v) 42) := rfl
    rw [e1]
    have hs0 := K0.out.size
    have HQ1 := Lib.hid (k1.blk (fun h => h) HQ.out)
    have B01 := Lib.hid (k1.blk (fun h => h) B0.out)
    have HOW1 := Lib.hid (HOW.out.keep k1 (fun h => h))
    have K1 := Lib.hid (K0.out.trans k1 (fun _ _ h => h))
    have hz0 : w.heap.size < w0.heap.size := B0.out.lt
    have hgb : g ≠ b := by
      obtain ⟨cs, h1, _⟩ := HOW.out
      exact HQ.out.ne_ h1 (of_decide_eq_true (by kernel_rfl))
    clear c0 c1 c2 c3 c4 c5 c6 c7 c8 c9 c10 q3 e1 HQ K0 HO
    generalize w0.alloc (.cells (opA e.v) 42) = w1 at *
    have q3 : w1.cell? ⟨g, 3, none⟩ = some (.slice (some ⟨b, o, none⟩) (O.length + 1) (m + 1)) := by
      have h := HQ1.out.cell' (i := 3) rfl
      rw [HM.out, show R.length * entE.k = o from HOO.out] at h
      exact h
    have f3 := HQ1.out.frozen 3
    have fin : ∀ o' : Nat, (R.length + 1 < cap ∧ o' = R.length * 11 + 11) ∨ cap = R.length + 1 → ∀ w2, w2 = w1.setCell ⟨g, 3, none⟩ (.slice (some ⟨b, o', none⟩) O.length m) → (Hid (Blk w2 w.heap.size 42 zeroOp) ∧ Hid (Blk w2 w0.heap.size 42 (opA e.v))) ∧
        Hid (Blk (w2.setRow w.heap.size (opA e.v)) g 51 #[h0, vv, wv, .slice (some ⟨b, o', none⟩) O.length m] ∧ OutAt entE (w2.setRow w.heap.size (opA e.v)) 42 (.slice (some ⟨b, o', none⟩) O.length m) O ∧ Kept (fun x => x = g) w (w2.setRow w.heap.size (opA e.v))) := by
      rintro o' ho' w2 rfl
      have k2 : Kept (fun x => x = g) w1 (w1.setCell ⟨g, 3, none⟩ (.slice (some ⟨b, o', none⟩) O.length m)) := (Kept.refl (fun x => x = g) w1).setCell (p := ⟨g, 3, none⟩) (fun _ => rfl) _
      have hQ2 := HQ1.out.set_ 3 (.slice (some ⟨b, o', none⟩) O.length m)
      have hO2 := HOW1.out.keep k2 (fun h => hgb h.symm)
      have hB2 := k2.blk (fun h => by have h : w.heap.size = g := h; omega) B01.out
      have hB3 := k2.blk (fun h => by have h : w0.heap.size = g := h; omega) B1.out
      have k3 : Kept (fun x => x = w.heap.size) (w1.setCell ⟨g, 3, none⟩ (.slice (some ⟨b, o', none⟩) O.length m)) ((w1.setCell ⟨g, 3, none⟩ (.slice (some ⟨b, o', none⟩) O.length m)).setRow w.heap.size (opA e.v)) := (Kept.refl (fun x => x = w.heap.size) _).setRow (g := w.heap.size) (fun _ => rfl) (opA e.v)
      have hbw : b ≠ w.heap.size := fun h => by
        obtain ⟨cs, h1, _⟩ := HOW.out
        have : b < w.heap.size := BLT.out
        omega
      refine ⟨⟨Lib.hid hB2, Lib.hid hB3⟩, Lib.hid ⟨hQ2.row_far (by omega) _, ?_, ((K1.out.mono (S' := fun x => x = g) (fun _ _ h => h.elim)).trans k2 (fun _ _ h => h)).trans k3 (fun x hx h => by have h : x = w.heap.size := h; omega)⟩⟩
      have := OutAt.cut (hO2.keep k3 (fun h => hbw h)) HR.out o' ho'
      rw [HM.out] at this
      exact this
    by_cases hm0 : m = 0
    · subst hm0
      obtain ⟨⟨hB2, hB3⟩, FIN⟩ := fin o (.inr (by have := HM.out; have := HR.out; omega)) _ rfl
      clear fin
      go_upto_region 5 with fail
      clear q3 f3
      go_wp2_with (first
        | (refine wpList_load_row rfl 42 _ rfl w0.heap.size rfl 42 _ (0, 0) _ hB3.out Tryz.underlying42 rfl (by rw [opA_size]; exact size_op) ?_)
        | (refine wpList_store_row rfl 42 _ _ rfl w.heap.size (opA e.v) rfl rfl 42 zeroOp hB2.out (by rw [opA_size]; exact size_op) (by rw [opA_size]; rfl) (opA_one _) ?_))
      exact bodyPost_ret (Blk.result2 rfl _ (hB2.out.row _) rfl Tryz.underlying42 rfl (by rw [opA_size]; exact size_op)) rfl (.inr ⟨e, O, _, rfl, rfl, FIN.out.1, FIN.out.2.1, rfl, FIN.out.2.2⟩)
    · obtain ⟨⟨hB2, hB3⟩, FIN⟩ := fin (o + 11) (.inl ⟨by have := HM.out; omega, by rw [HOO.out]⟩) _ rfl
      clear fin
      have hmn : (m : Int) ≠ 0 := by omega
      go_upto_region 5 with fail
      clear q3 f3
      go_wp2_with (first
        | (refine wpList_load_row rfl 42 _ rfl w0.heap.size rfl 42 _ (0, 0) _ hB3.out Tryz.underlying42 rfl (by rw [opA_size]; exact size_op) ?_)
        | (refine wpList_store_row rfl 42 _ _ rfl w.heap.size (opA e.v) rfl rfl 42 zeroOp hB2.out (by rw [opA_size]; exact size_op) (by rw [opA_size]; rfl) (opA_one _) ?_))
      exact bodyPost_ret (Blk.result2 rfl _ (hB2.out.row _) rfl Tryz.underlying42 rfl (by rw [opA_size]; exact size_op)) rfl (.inr ⟨e, O, _, rfl, rfl, FIN.out.1, FIN.out.2.1, rfl, FIN.out.2.2⟩)
end Go.Proofs.YtaaeomapbigfgaaGreat
namespace Go.Proofs.YtaaeomapbigfgaaGreat
open Go.RowKit Go.Proofs.YtaaeomapbigfgaaGreat.St
open Go.Sort (grow)
set_option maxRecDepth 100000 in
set_option maxHeartbeats 1000000 in
theorem free_any {w : World} {g : Nat} {hold : Int} {vv ov : Value} {a : Option Addr} {n c : Nat} (hq : Blk w g 49 #[.int .i64 hold, vv, .slice a n c, ov]) (h1 : -1000000 ≤ hold) (h2 : hold ≤ 1000000) (hn : n ≤ 1000000) :
    Calls Tryz.prog 17 #[.pointer (some ⟨g, 0, none⟩)] w fun r w' => r = .returned (.int .i64 (hold - n)) ∧ Grew w w' := by
  have q0 : w.cell? ⟨g, 0, none⟩ = some (.int .i64 hold) := hq.cell' (i := 0) rfl
  have q2 : w.cell? ⟨g, 2, none⟩ = some (.slice a n c) := hq.cell' (i := 2) rfl
  have hw : IntKind.i64.wrap (hold - n) = hold - n := IntWalk.i64_in _ (by omega)
  have HH := Lib.hid hw
  clear hq
  go_enter Tryz.func17, Tryz.ntmps17
  go_wp2_with fail
  go_region
  all_goals
    go_wp2_with fail
    go_ret
    exact ⟨rfl, (Grew.refl _).drew⟩
set_option maxRecDepth 100000 in
set_option maxHeartbeats 1000000 in
theorem vector_any {w : World} {g : Nat} {h0 vv wv ov : Value} {V : List Dot} (hq : Blk w g 49 #[h0, vv, wv, ov]) (hv : SlAt dotE w vv V) (hl : V.length ≤ 1000000000) :
    Calls Tryz.prog 18 #[.pointer (some ⟨g, 0, none⟩)] w fun r w' => ∃ v', r = .returned v' ∧ w'.ownsRow w.heap.size 28 2 v' V.length (dotE.flat V) ∧ Kept (fun _ => False) w w' := by
  have q1 : w.cell? ⟨g, 1, none⟩ = some vv := hq.cell' (i := 1) rfl
  have HC := Lib.hid (clone_dot hv hl)
  clear hq hv
  go_enter Tryz.func18, Tryz.ntmps18
  go_wp2_with (go_at_call 30; refine HC.out.mono ?_; rintro r w1 ⟨v', rfl, ho, hk⟩)
  go_ret
  exact ⟨v', rfl, ho, hk⟩
def newC (hold : Int) (V : List Dot) : Int := if hold < 0 ∨ 256 < hold then 1 else chkV 0 V
set_option maxRecDepth 100000 in
set_option maxHeartbeats 1000000 in
theorem new_any {w : World} {hold : Int} {v : Value} {V : List Dot} (hv : SlAt dotE w v V) (hl : V.length ≤ 1000000) :
    Calls Tryz.prog 9 #[.int .i64 hold, v] w fun r w' => Kept (fun _ => False) w w' ∧ ((newC hold V ≠ 0 ∧ r = .returned (.tuple #[.pointer none, .int .i64 (newC hold V)])) ∨
      (newC hold V = 0 ∧ ∃ g v', r = .returned (.tuple #[.pointer (some ⟨g, 0, none⟩), .int .i64 0]) ∧ w.heap.size ≤ g ∧ Blk w' g 49 #[.int .i64 hold, v', .slice none 0 0, .slice none 0 0] ∧ w'.ownsRow w.heap.size 28 2 v' V.length (dotE.flat V))) := by
  have HV := Lib.hid hv
  clear hv
  go_enter Tryz.func9, Tryz.ntmps9
  by_cases h1 : hold < 0
  · have HC : Hid (newC hold V = 1) := Lib.hid (if_pos (.inl h1))
    go_wp2_with fail
    go_ret2
    exact ⟨Kept.refl _ _, .inl ⟨by rw [HC.out]; decide, by rw [HC.out]; rfl⟩⟩
  · by_cases h2 : 256 < hold
    · have HC : Hid (newC hold V = 1) := Lib.hid (if_pos (.inr h2))
      go_wp2_with fail
      go_ret2
      exact ⟨Kept.refl _ _, .inl ⟨by rw [HC.out]; decide, by rw [HC.out]; rfl⟩⟩
    · have HC : Hid (newC hold V = chkV 0 V) := Lib.hid (if_neg (by omega))
      have HK := Lib.hid (vcheck_any HV.out (by omega))
      by_cases hc : chkV 0 V = 0
      · rw [hc] at HK
        have HZ := Lib.hid hc
        clear hc
        go_wp2_with (first
          | (go_at_call 29; refine HK.out.mono ?_; rintro r w1 ⟨rfl, hk1⟩; have HC1 := Lib.hid (clone_dot (HV.out.kept hk1) (by omega)); have K1 := Lib.hid hk1)
          | (go_at_call 30; refine HC1.out.mono ?_; rintro r w2 ⟨v', rfl, ho, hk⟩; obtain ⟨va, vc, rfl⟩ := owns_sl ho))
        go_ret2
        have k3 := (Kept.refl (fun _ => False) w2).alloc (.cells #[.int .i64 hold, .slice va V.length vc, .slice none 0 0, .slice none 0 0] 49)
        exact ⟨(K1.out.trans hk (fun _ _ h => h)).trans k3 (fun _ _ h => h), .inr ⟨by rw [HC.out, HZ.out], _, _, rfl, (K1.out.trans hk (fun _ _ h => h)).size, Blk.new _ _ _, owns_lower (owns_keep ho k3 (fun _ _ h => h)) K1.out.size⟩⟩
      · have HZ := Lib.hid hc
        have hcb : (chkV 0 V != 0) = true := by simpa using hc
        generalize chkV 0 V = c at *
        clear hc
        go_wp2_with (go_at_call 29; refine HK.out.mono ?_; rintro r w1 ⟨rfl, hk1⟩)
        go_ret2
        exact ⟨hk1, .inl ⟨by rw [HC.out]; exact HZ.out, by rw [HC.out]; rfl⟩⟩
end Go.Proofs.YtaaeomapbigfgaaGreat
namespace Go.Proofs.YtaaeomapbigfgaaGreat
open Go.RowKit Go.Proofs.YtaaeomapbigfgaaGreat.St
def mergeV (A B : List Dot) : List Dot := vecOf (maxV A B) 17
set_option maxRecDepth 100000 in
set_option maxHeartbeats 4000000 in
theorem rmerge_any {w : World} {va vb : Value} {A B : List Dot} (ha : SlAt dotE w va A) (hb : SlAt dotE w vb B) (hla : A.length ≤ 1000000000) (hlb : B.length ≤ 1000000000) :
    Calls Tryz.prog 19 #[va, vb] w fun e w' => ∃ v', e = .returned v' ∧ w'.ownsRow w.heap.size 28 2 v' (mergeV A B).length (dotE.flat (mergeV A B)) ∧ Kept (fun _ => False) w w' := by
  have hoa := rsays_any ha hla
  have HB := Lib.hid hb
  clear hb
  have HM0 : Hid (¬ 0 < maxV A B 0) := Lib.hid (by unfold maxV; rw [says_out A 0 (by decide), says_out B 0 (by decide)]; decide)
  go_enter Tryz.func19, Tryz.ntmps19
  go_upto_region 2 with (first
      | (refine wpList_store_row rfl 89 _ _ rfl w1.heap.size (cells (says A)) rfl rfl 89 zero17 P1.out (by rw [cells_size]; kernel_rfl) (by rw [cells_size]; rfl) (cells_one _) ?_)
      | (go_at_call 51; refine hoa.mono ?_; rintro e w1 ⟨rfl, hk1⟩; have P1 := Lib.hid (Blk.new w1 89 zero17)))
  have Q1 := Lib.hid (P1.out.row (cells (says A)))
  have s1 := hk1.size
  have k1 : Kept (fun _ => False) w ((w1.alloc (.cells zero17 89)).setRow w1.heap.size (cells (says A))) := (hk1.alloc _).setRow (fun h => by omega) _
  have K1 := Lib.hid k1
  clear P1 hk1 hoa k1
  generalize (w1.alloc (.cells zero17 89)).setRow w1.heap.size (cells (says A)) = w2 at *
  go_upto_region 3 with (first
      | (refine wpList_store_row rfl 89 _ _ rfl w3.heap.size (cells (says B)) rfl rfl 89 zero17 P3.out (by rw [cells_size]; kernel_rfl) (by rw [cells_size]; rfl) (cells_one _) ?_)
      | (go_at_call 51; refine (rsays_any (HB.out.kept K1.out) hlb).mono ?_; rintro e w3 ⟨rfl, hk3⟩; have P3 := Lib.hid (Blk.new w3 89 zero17)))
  have s3 := hk3.size
  have l1 := Q1.out.lt
  have Q3 := Lib.hid (P3.out.row (cells (says B)))
  have Q1' := Lib.hid (((hk3.blk (fun h => h) Q1.out).alloc (.cells zero17 89)).row_far (g := w3.heap.size) (by omega) (cells (says B)))
  have K3 := Lib.hid (((K1.out.trans hk3 (fun _ _ h => h)).alloc (.cells zero17 89)).setRow (g := w3.heap.size) (fun h => by have := K1.out.size; omega) (cells (says B)))
  have hne : w1.heap.size < w3.heap.size := by omega
  clear P3 hk3 Q1 K1 l1 s3
  generalize (w3.alloc (.cells zero17 89)).setRow w3.heap.size (cells (says B)) = w4 at *
  go_wp2_with fail
  go_loopw [7] (fun iv wr => ∃ n : Nat, iv = .int .i64 n ∧ n ≤ 17 ∧ Blk wr w1.heap.size 89 (cells fun i => if i < n then maxV A B i else says A i) ∧ Blk wr w3.heap.size 89 (cells (says B)) ∧ Kept (fun _ => False) w wr) (fun iv _ => 17 - (intOf iv).toNat)
  case atStart => exact ⟨0, rfl, by decide, Q1'.out, Q3.out, K3.out⟩
  case round =>
    clear K3 Q1' Q3
    obtain ⟨n, rfl, hn, h1, h2, hk⟩ := hrel
    have hn0 : (0 : Int) ≤ n := by omega
    by_cases hlt : n < 17
    case neg =>
      obtain rfl : n = 17 := by omega
      have e : cells (fun i => if i < 17 then maxV A B i else says A i) = cells (maxV A B) := cells_congr fun i hi => if_pos hi
      rw [e] at h1
      have H1 := Lib.hid h1
      have HK := Lib.hid hk
      have hof := rof_any (maxV A B) (fun h => by have := HM0.out; omega) wr
      clear h1 h2 hk e
      go_wp2_with (first
        | (refine wpList_load_row rfl 89 _ rfl w1.heap.size rfl 89 _ (0, 0) _ H1.out Tryz.underlying89 rfl (by rw [cells_size]; kernel_rfl) ?_)
        | (go_at_call 52; refine hof.mono ?_; rintro e w5 ⟨v5, rfl, ho5, hk5⟩))
      go_ret
      exact ⟨_, rfl, owns_lower ho5 HK.out.size, HK.out.trans hk5 (fun _ _ h => h)⟩
    case pos =>
      have hI : (n : Int) < 17 := by omega
      have c1 : wr.cell? ⟨w1.heap.size, n, none⟩ = some (.int .i64 (says A n)) := by
        have := h1.cell' (cells_get _ hlt)
        rwa [if_neg (Nat.lt_irrefl n)] at this
      have c2 := h2.cell' (cells_get (says B) hlt)
      have f1 := h1.frozen n
      have H1 := Lib.hid h1
      have H2 := Lib.hid h2
      have HK := Lib.hid hk
      have MX : (if says A n < says B n then says B n else says A n) = maxV A B n := rfl
      generalize hmx : maxV A B n = mx at *
      have MX2 := Lib.hid hmx
      clear h1 h2 hk hmx
      go_wp2_with fail
      go_region
      all_goals
        go_wp2_with fail
        go_roundw
        focus
          refine ⟨n + 1, by go_num, by omega, ?_, ((H2.out.far (by show w3.heap.size ≠ w1.heap.size; omega) _).drewN 1), (HK.out.setCell (fun h => by have h : w1.heap.size < w.heap.size := h; omega) _).drewN 1⟩
          have := (H1.out.set_ n (.int .i64 mx)).drewN 1
          rw [cells_set, ← MX2.out, max_next] at this
          rw [← MX2.out]
          exact this
        focus
          simp [intOf] <;> omega
end Go.Proofs.YtaaeomapbigfgaaGreat
namespace Go.Proofs.YtaaeomapbigfgaaGreat
open Go.Proofs.YtaaeomapbigfgaaGreat.St
/-- rising by sites, each Dot one -/
def Rises (A : List Dot) : Prop := A.Pairwise (fun a b => a.site < b.site) ∧ ∀ d ∈ A, d.Ok
theorem chk_rises : ∀ {A : List Dot} {last : Int}, chkV last A = 0 → Rises A ∧ ∀ d ∈ A, last < d.site
  | [], _, _ => ⟨⟨List.Pairwise.nil, fun d h => by simp at h⟩, fun d h => by simp at h⟩
  | x :: A, last, h => by
    unfold chkV at h
    by_cases h1 : isSite x.site
    · rw [if_neg (fun e => e h1)] at h
      by_cases h2 : x.seq < 1 ∨ 2147483647 < x.seq
      · rw [if_pos h2] at h; exact absurd h (by decide)
      rw [if_neg h2] at h
      by_cases h3 : x.site ≤ last
      · rw [if_pos h3] at h; exact absurd h (by decide)
      rw [if_neg h3] at h
      obtain ⟨⟨r1, r2⟩, r3⟩ := chk_rises h
      unfold isSite at h1
      have hx : x.Ok := ⟨h1.1, h1.2, by omega, by omega⟩
      refine ⟨⟨List.pairwise_cons.2 ⟨fun b hb => r3 b hb, r1⟩, fun d hd => ?_⟩, fun d hd => ?_⟩
      · rcases List.mem_cons.1 hd with rfl | hd
        · exact hx
        · exact r2 d hd
      · rcases List.mem_cons.1 hd with rfl | hd
        · omega
        · have := r3 d hd; omega
    · rw [if_pos h1] at h; exact absurd h (by decide)
theorem foldl_none : ∀ (L : List Dot) (f : Nat → Int) (i : Nat), (∀ d ∈ L, d.site ≠ i) → L.foldl sayS f i = f i
  | [], _, _, _ => rfl
  | x :: L, f, i, h => by
    rw [List.foldl_cons, foldl_none L _ i (fun d hd => h d (List.mem_cons_of_mem _ hd))]
    unfold sayS
    rw [if_neg (fun e => h x List.mem_cons_self e.2)]
theorem says_none {L : List Dot} {i : Nat} (h : ∀ d ∈ L, d.site ≠ i) : says L i = 0 := foldl_none L _ i h
theorem foldl_mem : ∀ (L : List Dot) (f : Nat → Int) (d : Dot), Rises L → d ∈ L → f d.site.toNat = 0 → L.foldl sayS f d.site.toNat = d.seq
  | [], _, _, _, h, _ => by simp at h
  | x :: L, f, d, hr, hd, hf => by
    have hok := hr.2 d hd
    have h0 := hok.1
    have h1 := hok.2.2.1
    have hi : ((d.site.toNat : Nat) : Int) = d.site := by omega
    obtain ⟨p1, p2⟩ := List.pairwise_cons.1 hr.1
    rw [List.foldl_cons]
    rcases List.mem_cons.1 hd with rfl | hd
    · rw [foldl_none L _ _ (fun b hb e => by have := p1 b hb; omega)]
      unfold sayS
      rw [if_pos ⟨hok, hi.symm⟩, if_pos (by omega)]
    · refine foldl_mem L _ d ⟨p2, fun b hb => hr.2 b (List.mem_cons_of_mem _ hb)⟩ hd ?_
      unfold sayS
      rw [if_neg (fun e => by have := p1 d hd; omega)]
      exact hf
theorem says_mem {L : List Dot} {d : Dot} (hr : Rises L) (hd : d ∈ L) : says L d.site.toNat = d.seq := foldl_mem L _ d hr hd rfl
theorem rises_eq : ∀ {A B : List Dot}, Rises A → Rises B → (∀ d, d ∈ A ↔ d ∈ B) → A = B
  | [], [], _, _, _ => rfl
  | [], b :: B, _, _, h => by have := (h b).2 List.mem_cons_self; simp at this
  | a :: A, [], _, _, h => by have := (h a).1 List.mem_cons_self; simp at this
  | a :: A, b :: B, ha, hb, h => by
    obtain ⟨p1, p2⟩ := List.pairwise_cons.1 ha.1
    obtain ⟨q1, q2⟩ := List.pairwise_cons.1 hb.1
    have hab : a = b := by
      rcases List.mem_cons.1 ((h a).1 List.mem_cons_self) with e | e
      · exact e
      · rcases List.mem_cons.1 ((h b).2 List.mem_cons_self) with e2 | e2
        · exact e2.symm
        · have h1 := q1 a e
          have h2 := p1 b e2
          omega
    subst hab
    rw [rises_eq ⟨p2, fun d hd => ha.2 d (List.mem_cons_of_mem _ hd)⟩ ⟨q2, fun d hd => hb.2 d (List.mem_cons_of_mem _ hd)⟩ (fun d => ?_)]
    constructor
    · intro hd
      rcases List.mem_cons.1 ((h d).1 (List.mem_cons_of_mem _ hd)) with e | e
      · subst e; have := p1 d hd; omega
      · exact e
    · intro hd
      rcases List.mem_cons.1 ((h d).2 (List.mem_cons_of_mem _ hd)) with e | e
      · subst e; have := q1 d hd; omega
      · exact e
theorem mem_vecOf {f : Nat → Int} {n : Nat} {d : Dot} : d ∈ vecOf f n ↔ ∃ i, i < n ∧ 0 < f i ∧ d = ⟨i, f i⟩ := by
  unfold vecOf
  rw [List.mem_filterMap]
  constructor
  · rintro ⟨i, hi, h⟩
    by_cases h0 : 0 < f i
    · rw [if_pos h0] at h
      injection h with h
      exact ⟨i, List.mem_range.1 hi, h0, h.symm⟩
    · rw [if_neg h0] at h; cases h
  · rintro ⟨i, hi, h0, rfl⟩
    exact ⟨i, List.mem_range.2 hi, by rw [if_pos h0]⟩
theorem vec_id {A : List Dot} (h : chkV 0 A = 0) : vecOf (says A) 17 = A := by
  have hA := (chk_rises h).1
  have hB := (chk_rises (chk_vec (f := says A) (fun i => (says_bd A i).2) (fun i hi => says_out A i hi))).1
  refine rises_eq hB hA fun d => ?_
  rw [mem_vecOf]
  constructor
  · rintro ⟨i, hi, h0, rfl⟩
    obtain ⟨e, he, hs⟩ : ∃ e ∈ A, e.site = i := by
      refine Classical.byContradiction fun hn => ?_
      rw [says_none (fun e he hs => hn ⟨e, he, hs⟩)] at h0
      omega
    have h1 := says_mem hA he
    have h2 : e.site.toNat = i := by omega
    rw [h2] at h1
    have h3 : (⟨(i : Int), says A i⟩ : Dot) = e := by rw [Dot.ext_iff]; exact ⟨hs.symm, h1⟩
    rw [h3]
    exact he
  · intro hd
    have hok := hA.2 d hd
    have h0 := hok.1
    have h4 := hok.2.1
    have h5 := hok.2.2.1
    have h1 := says_mem hA hd
    exact ⟨d.site.toNat, by omega, by omega, by rw [Dot.ext_iff]; exact ⟨by show d.site = ((d.site.toNat : Nat) : Int); omega, h1.symm⟩⟩
theorem merge_id {A : List Dot} (h : chkV 0 A = 0) : mergeV A [] = A := by
  have e : maxV A [] = says A := by
    funext i
    unfold maxV
    have h1 : says [] i = 0 := says_none (fun d hd => by simp at hd)
    have := (says_bd A i).1
    rw [h1, if_neg (by omega)]
  unfold mergeV
  rw [e]
  exact vec_id h
/-- delivered one behind the other from a vector on -/
def Chain : List Dot → List Cont → List Dot → Prop
  | V, [], V' => V' = V
  | V, c :: O, V' => c.1.dot.Ok ∧ Ent.can V c.1.dot c.2.1 ∧ Chain (addV V c.1.dot) O V'
theorem Chain.snoc : ∀ {O : List Cont} {V V' : List Dot} {c : Cont}, Chain V O V' → c.1.dot.Ok → Ent.can V' c.1.dot c.2.1 → Chain V (O ++ [c]) (addV V' c.1.dot)
  | [], V, V', c, h, hk, hc => by
    have h : V' = V := h
    subst h
    exact ⟨hk, hc, rfl⟩
  | x :: O, V, V', c, h, hk, hc => ⟨h.1, h.2.1, Chain.snoc (O := O) h.2.2 hk hc⟩
theorem Chain.grows : ∀ {O : List Cont} {V V' : List Dot}, Chain V O V' → growsV V V'
  | [], V, V', h => by
    have h : V' = V := h
    subst h
    exact growsV.refl _
  | x :: O, V, V', h => (growsV.add h.1 h.2.1.1).trans (Chain.grows h.2.2)
/-- those that wait -/
structure OrdP (P : Key → Prop) (V : List Dot) (W : List Cont) : Prop where
  mem : ∀ c ∈ W, c.1.dot.Ok ∧ P (ckey c)
  nohas : ∀ c ∈ W, ¬ hasV V c.1.dot
  nodup : (W.map (·.1.dot)).Nodup
theorem OrdP.mono {P Q : Key → Prop} {V : List Dot} {W : List Cont} (h : OrdP P V W) (hPQ : ∀ k, P k → Q k) : OrdP Q V W := ⟨fun c hc => ⟨(h.mem c hc).1, hPQ _ (h.mem c hc).2⟩, h.nohas, h.nodup⟩
theorem OrdP.sub {P : Key → Prop} {V : List Dot} {W W' : List Cont} (h : OrdP P V W) (hs : W'.Sublist W) : OrdP P V W' := ⟨fun c hc => h.mem c (hs.subset hc), fun c hc => h.nohas c (hs.subset hc), h.nodup.sublist (hs.map _)⟩
theorem OrdP.deliver {P : Key → Prop} {V : List Dot} {W : List Cont} (h : OrdP P V W) {d : Dot} (hd : d.Ok) (hc : d.seq = getV V d.site + 1) (hn : ∀ c ∈ W, c.1.dot ≠ d) : OrdP P (addV V d) W :=
  ⟨h.mem, fun c hcw hh => by
    rcases (has_add hd (h.mem c hcw).1 hc).1 hh with e | e
    · exact h.nohas c hcw e
    · exact hn c hcw e, h.nodup⟩
theorem OrdP.erase {P : Key → Prop} {V : List Dot} {W : List Cont} (h : OrdP P V W) {i : Nat} {e : Cont} (he : W[i]? = some e) (hc : Ent.can V e.1.dot e.2.1) : OrdP P (addV V e.1.dot) (W.eraseIdx i) := by
  refine (h.sub (List.eraseIdx_sublist _ _)).deliver (h.mem e (List.mem_of_getElem? he)).1 hc.1 (fun c hcw e1 => ?_)
  have hg : (W.map (·.1.dot))[i]? = some e.1.dot := by rw [List.getElem?_map, he]; rfl
  have := nodup_erase h.nodup hg
  rw [map_erase] at this
  exact this (List.mem_map.2 ⟨c, hcw, e1⟩)
def NoCan (V : List Dot) (W : List Cont) : Prop := ∀ c ∈ W, ¬ Ent.can V c.1.dot c.2.1
theorem cdrain_ord {P : Key → Prop} {V0 : List Dot} : ∀ (n : Nat) (s : CQ), s.W.length ≤ n → OrdP P s.V s.W → Chain V0 s.O s.V →
    OrdP P (cdrain n s).V (cdrain n s).W ∧ NoCan (cdrain n s).V (cdrain n s).W ∧ Chain V0 (cdrain n s).O (cdrain n s).V ∧ (cdrain n s).W.length ≤ s.W.length ∧ growsV s.V (cdrain n s).V
  | 0, s, hn, h, hc => by
    have hw : s.W = [] := List.length_eq_zero_iff.1 (by omega)
    exact ⟨h, fun c hcw => by rw [show (cdrain 0 s).W = s.W from rfl, hw] at hcw; simp at hcw, hc, Nat.le_refl _, growsV.refl _⟩
  | n + 1, s, hn, h, hc => by
    unfold cdrain
    cases h1 : s.W.findIdx? (fun k => decide (Ent.can s.V k.1.dot k.2.1)) with
    | none =>
      exact ⟨h, fun c hcw => by simpa using (List.findIdx?_eq_none_iff.1 h1) c hcw, hc, Nat.le_refl _, growsV.refl _⟩
    | some i =>
      obtain ⟨hi, hp, _⟩ := List.findIdx?_eq_some_iff_getElem.1 h1
      have he : s.W[i]? = some s.W[i] := List.getElem?_eq_getElem hi
      have hcan : Ent.can s.V (s.W[i]).1.dot (s.W[i]).2.1 := of_decide_eq_true hp
      simp only [he]
      have hok := (h.mem _ (List.getElem_mem hi)).1
      have hlen : (s.W.eraseIdx i).length = s.W.length - 1 := by rw [List.length_eraseIdx, if_pos hi]
      obtain ⟨a1, a2, a3, a4, a5⟩ := cdrain_ord (P := P) (V0 := V0) n ⟨addV s.V (s.W[i]).1.dot, s.W.eraseIdx i, s.O ++ [s.W[i]]⟩ (by show (s.W.eraseIdx i).length ≤ n; omega) (h.erase he hcan) (hc.snoc hok hcan)
      exact ⟨a1, a2, a3, by have a4 : _ ≤ (s.W.eraseIdx i).length := a4; omega, (growsV.add hok hcan.1).trans a5⟩
theorem cgr_le (W : List Cont) : ∀ n, cgr W n ≤ n
  | 0 => Nat.le_refl _
  | n + 1 => by
    unfold cgr
    have := cgr_le W n
    split
    · split <;> omega
    · omega
theorem cgr_lt (W : List Cont) (n : Nat) : cgr W (n + 1) ≤ n := by
  unfold cgr
  have := cgr_le W n
  split
  · split <;> omega
  · exact this
theorem pick42 (o : Option Cont) (d : Dot) : (match o with | some f => (if f.1.dot = d then (4 : Int) else 2) | none => 2) = 4 ∨ (match o with | some f => (if f.1.dot = d then (4 : Int) else 2) | none => 2) = 2 := by
  cases o with
  | none => exact .inr rfl
  | some f =>
    by_cases h : f.1.dot = d
    · exact .inl (if_pos h)
    · exact .inr (if_neg h)
/-- all that is known of a Queue out of which all was taken -/
structure OrdQ (P : Key → Prop) (hold : Int) (V : List Dot) (W : List Cont) : Prop where
  p : OrdP P V W
  no : NoCan V W
  len : (W.length : Int) ≤ hold
theorem coffer_ord {P : Key → Prop} {hold c : Int} {s : CQ} {e : Cont} (h : OrdQ P hold s.V s.W) (ho : s.O = []) (hok : c = 0 → e.1.dot.Ok ∧ P (ckey e)) :
    OrdQ P hold (coffer hold c s e).2.V (coffer hold c s e).2.W ∧ Chain s.V (coffer hold c s e).2.O (coffer hold c s e).2.V ∧ ((c ≠ 0 ∧ (coffer hold c s e).1 = 0) ∨ (c = 0 ∧ 1 ≤ (coffer hold c s e).1 ∧ (coffer hold c s e).1 ≤ 4)) ∧ ((coffer hold c s e).1 = 1 → hasV (coffer hold c s e).2.V e.1.dot) := by
  have hch : Chain s.V s.O s.V := by rw [ho]; rfl
  unfold coffer
  by_cases h0 : c ≠ 0
  · rw [if_pos h0]
    exact ⟨h, hch, .inl ⟨h0, rfl⟩, fun e1 => absurd (show (0 : Int) = 1 from e1) (by decide)⟩
  rw [if_neg h0]
  have h0' : c = 0 := Classical.byContradiction h0
  obtain ⟨hd, hP⟩ := hok h0'
  by_cases h1 : hasV s.V e.1.dot ∨ (s.W.any fun k => decide (k.1.dot = e.1.dot)) = true
  · rw [if_pos h1]
    exact ⟨h, hch, .inr ⟨h0', show (1 : Int) ≤ 3 by decide, show (3 : Int) ≤ 4 by decide⟩, fun e1 => absurd (show (3 : Int) = 1 from e1) (by decide)⟩
  rw [if_neg h1]
  have hnh : ¬ hasV s.V e.1.dot := fun e1 => h1 (.inl e1)
  have hnw : ∀ k ∈ s.W, k.1.dot ≠ e.1.dot := fun k hk e1 => h1 (.inr (List.any_eq_true.2 ⟨k, hk, decide_eq_true e1⟩))
  by_cases h2 : Ent.can s.V e.1.dot e.2.1
  · rw [if_pos h2]
    obtain ⟨a1, a2, a3, a4, a5⟩ := cdrain_ord (P := P) (V0 := s.V) s.W.length ⟨addV s.V e.1.dot, s.W, s.O ++ [e]⟩ (Nat.le_refl _) (h.p.deliver hd h2.1 hnw) (hch.snoc hd h2)
    refine ⟨⟨a1, a2, Int.le_trans (Int.ofNat_le.2 a4) h.len⟩, a3, .inr ⟨h0', show (1 : Int) ≤ 1 by decide, show (1 : Int) ≤ 4 by decide⟩, fun _ => ?_⟩
    exact growsV.has a5 ((has_add hd hd h2.1).2 (.inr rfl))
  rw [if_neg h2]
  have hbig : OrdP P s.V (s.W ++ [e]) := by
    refine ⟨fun k hk => ?_, fun k hk => ?_, ?_⟩
    · rcases List.mem_append.1 hk with hk | hk
      · exact h.p.mem k hk
      · rw [List.mem_singleton.1 hk]; exact ⟨hd, hP⟩
    · rcases List.mem_append.1 hk with hk | hk
      · exact h.p.nohas k hk
      · rw [List.mem_singleton.1 hk]; exact hnh
    · rw [List.map_append]
      refine List.nodup_append.2 ⟨h.p.nodup, by simp, fun a ha b hb => ?_⟩
      obtain ⟨k, hk, rfl⟩ := List.mem_map.1 ha
      obtain rfl : b = e.1.dot := by simpa using hb
      exact hnw k hk
  have hno : NoCan s.V (s.W ++ [e]) := fun k hk => by
    rcases List.mem_append.1 hk with hk | hk
    · exact h.no k hk
    · rw [List.mem_singleton.1 hk]; exact h2
  by_cases h3 : (s.W.length : Int) + 1 ≤ hold
  · rw [if_pos h3]
    exact ⟨⟨hbig, hno, by rw [List.length_append, List.length_singleton]; omega⟩, hch, .inr ⟨h0', show (1 : Int) ≤ 2 by decide, show (2 : Int) ≤ 4 by decide⟩, fun e1 => absurd (show (2 : Int) = 1 from e1) (by decide)⟩
  · rw [if_neg h3]
    have h42 := pick42 ((s.W ++ [e])[cgr (s.W ++ [e]) (s.W.length + 1)]?) e.1.dot
    have hk := cgr_lt (s.W ++ [e]) s.W.length
    have hlen : ((s.W ++ [e]).eraseIdx (cgr (s.W ++ [e]) (s.W.length + 1))).length = s.W.length := by
      rw [List.length_eraseIdx, if_pos (by rw [List.length_append, List.length_singleton]; omega), List.length_append, List.length_singleton]
      omega
    refine ⟨⟨hbig.sub (List.eraseIdx_sublist _ _), fun k hk => hno k ((List.eraseIdx_sublist _ _).subset hk), by show ((((s.W ++ [e]).eraseIdx (cgr (s.W ++ [e]) (s.W.length + 1))).length : Nat) : Int) ≤ hold; rw [hlen]; exact h.len⟩, hch, .inr ⟨h0', ?_, ?_⟩, fun e1 => ?_⟩
    · rcases h42 with h | h
      · exact Int.le_trans (show (1 : Int) ≤ 4 by decide) (Int.le_of_eq h.symm)
      · exact Int.le_trans (show (1 : Int) ≤ 2 by decide) (Int.le_of_eq h.symm)
    · rcases h42 with h | h
      · exact Int.le_of_eq h
      · exact Int.le_trans (Int.le_of_eq h) (show (2 : Int) ≤ 4 by decide)
    · rcases h42 with h | h
      · exact absurd (show (4 : Int) = 1 from h.symm.trans e1) (by decide)
      · exact absurd (show (2 : Int) = 1 from h.symm.trans e1) (by decide)
end Go.Proofs.YtaaeomapbigfgaaGreat
