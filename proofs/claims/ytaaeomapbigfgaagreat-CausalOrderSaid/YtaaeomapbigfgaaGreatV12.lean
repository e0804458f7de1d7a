/- (*causal.Queue).Free, Vector; causal.New. (*causal.Queue).Take. -/
import Derived.Test.YtaaeomapbigfgaaGreatV9
import Derived.Laws.ResultCell
namespace Go.Proofs.YtaaeomapbigfgaaGreat
open Go.RowKit Go.Proofs.YtaaeomapbigfgaaGreat.St
open Go.Sort (grow)
set_option maxRecDepth 100000 in
set_option maxHeartbeats 1000000 in
theorem free_any {w : World} {g : Nat} {hold : Int} {vv ov : Value} {a : Option Addr} {n c : Nat} (hq : Blk w g 49 #[.int .i64 hold, vv, .slice a n c, ov]) (h1 : -1000000 ≤ hold) (h2 : hold ≤ 1000000) (hn : n ≤ 1000000) :
    Calls Tryz.prog 17 #[.pointer (some ⟨g, 0, none⟩)] w fun r w' => r = .returned (.int .i64 (hold - n)) ∧ Grew w w' := by
  have q0 : w.cell? ⟨g, 0, none⟩ = some (.int .i64 hold) := hq.cell' (i := 0) rfl
  have q2 : w.cell? ⟨g, 2, none⟩ = some (.slice a n c) := hq.cell' (i := 2) rfl
  have hw : IntKind.i64.wrap (hold - n) = hold - n := IntWalk.i64_in _ (by omega)
  have HH := Lib.hid hw
  clear hq
  go_enter Tryz.func17, Tryz.ntmps17
  go_wp2_with fail
  go_region
  all_goals
    go_wp2_with fail
    go_ret
    exact ⟨rfl, (Grew.refl _).drew⟩
set_option maxRecDepth 100000 in
set_option maxHeartbeats 1000000 in
theorem vector_any {w : World} {g : Nat} {h0 vv wv ov : Value} {V : List Dot} (hq : Blk w g 49 #[h0, vv, wv, ov]) (hv : SlAt dotE w vv V) (hl : V.length ≤ 1000000000) :
    Calls Tryz.prog 18 #[.pointer (some ⟨g, 0, none⟩)] w fun r w' => ∃ v', r = .returned v' ∧ w'.ownsRow w.heap.size 28 2 v' V.length (dotE.flat V) ∧ Kept (fun _ => False) w w' := by
  have q1 : w.cell? ⟨g, 1, none⟩ = some vv := hq.cell' (i := 1) rfl
  have HC := Lib.hid (clone_dot hv hl)
  clear hq hv
  go_enter Tryz.func18, Tryz.ntmps18
  go_wp2_with (go_at_call 30; refine HC.out.mono ?_; rintro r w1 ⟨v', rfl, ho, hk⟩)
  go_ret
  exact ⟨v', rfl, ho, hk⟩
def newC (hold : Int) (V : List Dot) : Int := if hold < 0 ∨ 256 < hold then 1 else chkV 0 V
set_option maxRecDepth 100000 in
set_option maxHeartbeats 1000000 in
theorem new_any {w : World} {hold : Int} {v : Value} {V : List Dot} (hv : SlAt dotE w v V) (hl : V.length ≤ 1000000) :
    Calls Tryz.prog 9 #[.int .i64 hold, v] w fun r w' => Kept (fun _ => False) w w' ∧ ((newC hold V ≠ 0 ∧ r = .returned (.tuple #[.pointer none, .int .i64 (newC hold V)])) ∨
      (newC hold V = 0 ∧ ∃ g v', r = .returned (.tuple #[.pointer (some ⟨g, 0, none⟩), .int .i64 0]) ∧ w.heap.size ≤ g ∧ Blk w' g 49 #[.int .i64 hold, v', .slice none 0 0, .slice none 0 0] ∧ w'.ownsRow w.heap.size 28 2 v' V.length (dotE.flat V))) := by
  have HV := Lib.hid hv
  clear hv
  go_enter Tryz.func9, Tryz.ntmps9
  by_cases h1 : hold < 0
  · have HC : Hid (newC hold V = 1) := Lib.hid (if_pos (.inl h1))
    go_wp2_with fail
    go_ret2
    exact ⟨Kept.refl _ _, .inl ⟨by rw [HC.out]; decide, by rw [HC.out]; rfl⟩⟩
  · by_cases h2 : 256 < hold
    · have HC : Hid (newC hold V = 1) := Lib.hid (if_pos (.inr h2))
      go_wp2_with fail
      go_ret2
      exact ⟨Kept.refl _ _, .inl ⟨by rw [HC.out]; decide, by rw [HC.out]; rfl⟩⟩
    · have HC : Hid (newC hold V = chkV 0 V) := Lib.hid (if_neg (by omega))
      have HK := Lib.hid (vcheck_any HV.out (by omega))
      by_cases hc : chkV 0 V = 0
      · rw [hc] at HK
        have HZ := Lib.hid hc
        clear hc
        go_wp2_with (first
          | (go_at_call 29; refine HK.out.mono ?_; rintro r w1 ⟨rfl, hk1⟩; have HC1 := Lib.hid (clone_dot (HV.out.kept hk1) (by omega)); have K1 := Lib.hid hk1)
          | (go_at_call 30; refine HC1.out.mono ?_; rintro r w2 ⟨v', rfl, ho, hk⟩; obtain ⟨va, vc, rfl⟩ := owns_sl ho))
        go_ret2
        have k3 := (Kept.refl (fun _ => False) w2).alloc (.cells #[.int .i64 hold, .slice va V.length vc, .slice none 0 0, .slice none 0 0] 49)
        exact ⟨(K1.out.trans hk (fun _ _ h => h)).trans k3 (fun _ _ h => h), .inr ⟨by rw [HC.out, HZ.out], _, _, rfl, (K1.out.trans hk (fun _ _ h => h)).size, Blk.new _ _ _, owns_lower (owns_keep ho k3 (fun _ _ h => h)) K1.out.size⟩⟩
      · have HZ := Lib.hid hc
        have hcb : (chkV 0 V != 0) = true := by simpa using hc
        generalize chkV 0 V = c at *
        clear hc
        go_wp2_with (go_at_call 29; refine HK.out.mono ?_; rintro r w1 ⟨rfl, hk1⟩)
        go_ret2
        exact ⟨hk1, .inl ⟨by rw [HC.out]; exact HZ.out, by rw [HC.out]; rfl⟩⟩
end Go.Proofs.YtaaeomapbigfgaaGreat
namespace Go.Proofs.YtaaeomapbigfgaaGreat
open Go.RowKit Go.Proofs.YtaaeomapbigfgaaGreat.St
open Go.Sort (grow)
theorem Blk.result2 {P : Program} {w : World} {g : Nat} {t : TypeId} {cs : Array Value} {fn : Func} {p u : Tmp} {ty : TypeId} {d : TypeDesc} (hr : fn.results = #[.cell p ty, .tmp u]) (tmps : Array Value) (h : Blk w g t cs) (hp : tmps.getD p undef = .pointer (some ⟨g, 0, none⟩))
    (hu : P.underlying ty = some d) (hd : (match d with | .struct _ | .array _ _ => true | _ => false) = true) (hi : (P.info? ty).map (·.size) = some cs.size) : (results fn tmps).run P w = .ok (.tuple #[.agg cs, tmps.getD u undef]) w := by
  rw [results_cell_tmp hr, hp]
  simp [asAddr, run_loadVar_row w g t ty cs (0, 0) d h hu hd hi, Result.andThen]
theorem OutAt.cut {w' : World} {t : TypeId} {g cap : Nat} {R : List Ent} {e : Ent} {O : List Ent} (hO : OwnAt entE w' t g cap (R ++ e :: O)) (hc : R.length < cap) (o' : Nat) (ho : (R.length + 1 < cap ∧ o' = R.length * 11 + 11) ∨ cap = R.length + 1) :
    OutAt entE w' t (.slice (some ⟨g, o', none⟩) O.length (cap - R.length - 1)) O := by
  have hle := hO.le.1
  simp at hle
  rcases ho with ⟨h1, rfl⟩ | h1
  · refine .inr ⟨g, cap, R ++ [e], ?_, by simpa using h1, by simpa using hO⟩
    have hl : (R ++ [e]).length = R.length + 1 := by simp
    rw [hl]
    rw [show cap - R.length - 1 = cap - (R.length + 1) by omega]
    show Value.slice (some ⟨g, R.length * 11 + 11, none⟩) _ _ = .slice (some ⟨g, (R.length + 1) * 11, none⟩) _ _
    rw [show R.length * 11 + 11 = (R.length + 1) * 11 by omega]
  · have hle' : R.length + (O.length + 1) ≤ cap := by simpa using hle
    have h0 : O.length = 0 := by omega
    obtain rfl : O = [] := List.eq_nil_of_length_eq_zero h0
    exact .inl ⟨some ⟨g, o', none⟩, by subst h1; simp, rfl⟩
set_option maxRecDepth 100000 in
set_option maxHeartbeats 4000000 in
theorem take_any {w : World} {g : Nat} {h0 vv wv ov : Value} {O : List Ent} (hq : Blk w g 49 #[h0, vv, wv, ov]) (hO : OutAt entE w 42 ov O) (hl : O.length ≤ 1000000) :
    Calls Tryz.prog 14 #[.pointer (some ⟨g, 0, none⟩)] w fun r w' => (O = [] ∧ r = .returned (.tuple #[.agg zeroOp, .bool false]) ∧ Kept (fun _ => False) w w') ∨
      ∃ e O' ov', O = e :: O' ∧ r = .returned (.tuple #[.agg (opA e.v), .bool true]) ∧ Blk w' g 49 #[h0, vv, wv, ov'] ∧ OutAt entE w' 42 ov' O' ∧ ov'.ownBlock = ov.ownBlock ∧ Kept (fun x => x = g) w w' := by
  have hB := Blk.new w 42 zeroOp
  have k0 : Kept (fun _ => False) w (w.alloc (.cells zeroOp 42)) := (Kept.refl _ _).alloc _
  have hgw := hq.lt
  have HQ := Lib.hid (k0.blk (fun h => h) hq)
  have HO := Lib.hid (hO.keep k0 (fun _ _ _ h => h))
  have OLT := Lib.hid (fun (hn : O ≠ []) => OutAt.lt_of hO hn)
  obtain ⟨oa, oc, rfl⟩ := hO.len
  clear hq hO
  go_enter Tryz.func14, Tryz.ntmps14
  go_upto_region 1 with fail
  have K0 := Lib.hid k0
  generalize w.alloc (.cells zeroOp 42) = w0 at *
  have B0 := Lib.hid hB
  have q3 : w0.cell? ⟨g, 3, none⟩ = some (.slice oa O.length oc) := HQ.out.cell' (i := 3) rfl
  clear k0 hB
  cases O with
  | nil =>
    have q3' : w0.cell? ⟨g, 3, none⟩ = some (.slice oa 0 oc) := q3
    clear q3
    go_wp2_with (first
      | (refine wpList_store_row rfl 42 _ _ rfl w.heap.size zeroOp rfl rfl 42 zeroOp B0.out size_op rfl (by simp [zeroOp, Value.oneCell']) ?_))
    exact bodyPost_ret (Blk.result2 rfl _ (B0.out.row _) rfl Tryz.underlying42 rfl size_op) rfl ⟨rfl, K0.out.setRow (fun h => by omega) _⟩
  | cons e O =>
    rcases HO.out with ⟨_, _, h⟩ | ⟨b, cap, R, hv, hRc, hOw⟩
    · cases h
    injection hv with e1 e0 e2
    subst e1 e2
    clear e0
    have hob := hOw.lt
    have BLT := Lib.hid (OLT.out (by simp) b rfl)
    have hle := hOw.le
    have hll : (R ++ e :: O).length = R.length + O.length + 1 := by simp; omega
    rw [hll] at hle
    have hx : (R ++ e :: O)[R.length]? = some e := by simp
    have c0 : w0.cell? ⟨b, R.length * 11, none⟩ = some (.int .i64 e.v.dot.site) := OwnAt.ent hOw hx (j := 0) rfl
    have c1 : w0.cell? ⟨b, R.length * 11 + 1, none⟩ = some (.int .i64 e.v.dot.seq) := OwnAt.ent hOw hx (j := 1) rfl
    have c2 : w0.cell? ⟨b, R.length * 11 + 2, none⟩ = some (.slice e.v.deps.a e.v.deps.n e.v.deps.c) := OwnAt.ent hOw hx (j := 2) rfl
    have c3 : w0.cell? ⟨b, R.length * 11 + 3, none⟩ = some (.int .i64 e.v.kind) := OwnAt.ent hOw hx (j := 3) rfl
    have c4 : w0.cell? ⟨b, R.length * 11 + 4, none⟩ = some (.int .i64 e.v.id.t) := OwnAt.ent hOw hx (j := 4) rfl
    have c5 : w0.cell? ⟨b, R.length * 11 + 5, none⟩ = some (.int .i64 e.v.id.s) := OwnAt.ent hOw hx (j := 5) rfl
    have c6 : w0.cell? ⟨b, R.length * 11 + 6, none⟩ = some (.int .i64 e.v.ref.t) := OwnAt.ent hOw hx (j := 6) rfl
    have c7 : w0.cell? ⟨b, R.length * 11 + 7, none⟩ = some (.int .i64 e.v.ref.s) := OwnAt.ent hOw hx (j := 7) rfl
    have c8 : w0.cell? ⟨b, R.length * 11 + 8, none⟩ = some (.string e.v.text) := OwnAt.ent hOw hx (j := 8) rfl
    have c9 : w0.cell? ⟨b, R.length * 11 + 9, none⟩ = some (.slice e.v.gone.a e.v.gone.n e.v.gone.c) := OwnAt.ent hOw hx (j := 9) rfl
    have c10 : w0.cell? ⟨b, R.length * 11 + 10, none⟩ = some (.int .i64 e.v.site) := OwnAt.ent hOw hx (j := 10) rfl
    have HR := Lib.hid hRc
    have HOW := Lib.hid hOw
    have HL := Lib.hid hle
    have hol : (e :: O).length = O.length + 1 := rfl
    rw [hol] at q3
    have B1 := Lib.hid (Blk.new w0 42 (opA e.v))
    have k1 : Kept (fun _ => False) w0 (w0.alloc (.cells (opA e.v) 42)) := (Kept.refl _ _).alloc _
    obtain ⟨m, hm⟩ : ∃ m, cap - R.length = m + 1 := ⟨cap - R.length - 1, by omega⟩
    have HM := Lib.hid hm
    obtain ⟨o, ho⟩ : ∃ o, R.length * 11 = o := ⟨_, rfl⟩
    have HOO := Lib.hid ho
    have ho2 : R.length * entE.k = o := ho
    rw [hm, ho2] at q3
    rw [ho] at c0 c1 c2 c3 c4 c5 c6 c7 c8 c9 c10
    have hml : (O.length : Int) + 1 ≤ m + 1 := by omega
    have hm63 : (m : Int) + 1 ≤ 9223372036854775807 := by have := hle.2; unfold maxLen at this; omega
    have hoL : (0 : Int) ≤ O.length := by omega
    clear hx hOw hRc hll hm ho ho2 hle hol hob
    have hne : ((O.length : Int) + 1 == 0) = false := beq_eq_false_iff_ne.2 (by omega)
    clear hl
    go_upto_region 4 with fail
    have e1 : w0.alloc (.cells #[.int .i64 e.v.dot.site, .int .i64 e.v.dot.seq, .slice e.v.deps.a e.v.deps.n e.v.deps.c, .int .i64 e.v.kind, .int .i64 e.v.id.t, .int .i64 e.v.id.s, .int .i64 e.v.ref.t, .int .i64 e.v.ref.s, .string e.v.text, .slice e.v.gone.a e.v.gone.n e.v.gone.c, .int .i64 e.v.site] 42) = w0.alloc (.cells (opA e.v) 42) := rfl
    rw [e1]
    have hs0 := K0.out.size
    have HQ1 := Lib.hid (k1.blk (fun h => h) HQ.out)
    have B01 := Lib.hid (k1.blk (fun h => h) B0.out)
    have HOW1 := Lib.hid (HOW.out.keep k1 (fun h => h))
    have K1 := Lib.hid (K0.out.trans k1 (fun _ _ h => h))
    have hz0 : w.heap.size < w0.heap.size := B0.out.lt
    have hgb : g ≠ b := by
      obtain ⟨cs, h1, _⟩ := HOW.out
      exact HQ.out.ne_ h1 (of_decide_eq_true (by kernel_rfl))
    clear c0 c1 c2 c3 c4 c5 c6 c7 c8 c9 c10 q3 e1 HQ K0 HO
    generalize w0.alloc (.cells (opA e.v) 42) = w1 at *
    have q3 : w1.cell? ⟨g, 3, none⟩ = some (.slice (some ⟨b, o, none⟩) (O.length + 1) (m + 1)) := by
      have h := HQ1.out.cell' (i := 3) rfl
      rw [HM.out, show R.length * entE.k = o from HOO.out] at h
      exact h
    have f3 := HQ1.out.frozen 3
    have fin : ∀ o' : Nat, (R.length + 1 < cap ∧ o' = R.length * 11 + 11) ∨ cap = R.length + 1 → ∀ w2, w2 = w1.setCell ⟨g, 3, none⟩ (.slice (some ⟨b, o', none⟩) O.length m) → (Hid (Blk w2 w.heap.size 42 zeroOp) ∧ Hid (Blk w2 w0.heap.size 42 (opA e.v))) ∧
        Hid (Blk (w2.setRow w.heap.size (opA e.v)) g 49 #[h0, vv, wv, .slice (some ⟨b, o', none⟩) O.length m] ∧ OutAt entE (w2.setRow w.heap.size (opA e.v)) 42 (.slice (some ⟨b, o', none⟩) O.length m) O ∧ Kept (fun x => x = g) w (w2.setRow w.heap.size (opA e.v))) := by
      rintro o' ho' w2 rfl
      have k2 : Kept (fun x => x = g) w1 (w1.setCell ⟨g, 3, none⟩ (.slice (some ⟨b, o', none⟩) O.length m)) := (Kept.refl (fun x => x = g) w1).setCell (p := ⟨g, 3, none⟩) (fun _ => rfl) _
      have hQ2 := HQ1.out.set_ 3 (.slice (some ⟨b, o', none⟩) O.length m)
      have hO2 := HOW1.out.keep k2 (fun h => hgb h.symm)
      have hB2 := k2.blk (fun h => by have h : w.heap.size = g := h; omega) B01.out
      have hB3 := k2.blk (fun h => by have h : w0.heap.size = g := h; omega) B1.out
      have k3 : Kept (fun x => x = w.heap.size) (w1.setCell ⟨g, 3, none⟩ (.slice (some ⟨b, o', none⟩) O.length m)) ((w1.setCell ⟨g, 3, none⟩ (.slice (some ⟨b, o', none⟩) O.length m)).setRow w.heap.size (opA e.v)) := (Kept.refl (fun x => x = w.heap.size) _).setRow (g := w.heap.size) (fun _ => rfl) (opA e.v)
      have hbw : b ≠ w.heap.size := fun h => by
        obtain ⟨cs, h1, _⟩ := HOW.out
        have : b < w.heap.size := BLT.out
        omega
      refine ⟨⟨Lib.hid hB2, Lib.hid hB3⟩, Lib.hid ⟨hQ2.row_far (by omega) _, ?_, ((K1.out.mono (S' := fun x => x = g) (fun _ _ h => h.elim)).trans k2 (fun _ _ h => h)).trans k3 (fun x hx h => by have h : x = w.heap.size := h; omega)⟩⟩
      have := OutAt.cut (hO2.keep k3 (fun h => hbw h)) HR.out o' ho'
      rw [HM.out] at this
      exact this
    by_cases hm0 : m = 0
    · subst hm0
      obtain ⟨⟨hB2, hB3⟩, FIN⟩ := fin o (.inr (by have := HM.out; have := HR.out; omega)) _ rfl
      clear fin
      go_upto_region 5 with fail
      clear q3 f3
      go_wp2_with (first
        | (refine wpList_load_row rfl 42 _ rfl w0.heap.size rfl 42 _ (0, 0) _ hB3.out Tryz.underlying42 rfl (by rw [opA_size]; exact size_op) ?_)
        | (refine wpList_store_row rfl 42 _ _ rfl w.heap.size (opA e.v) rfl rfl 42 zeroOp hB2.out (by rw [opA_size]; exact size_op) (by rw [opA_size]; rfl) (opA_one _) ?_))
      exact bodyPost_ret (Blk.result2 rfl _ (hB2.out.row _) rfl Tryz.underlying42 rfl (by rw [opA_size]; exact size_op)) rfl (.inr ⟨e, O, _, rfl, rfl, FIN.out.1, FIN.out.2.1, rfl, FIN.out.2.2⟩)
    · obtain ⟨⟨hB2, hB3⟩, FIN⟩ := fin (o + 11) (.inl ⟨by have := HM.out; omega, by rw [HOO.out]⟩) _ rfl
      clear fin
      have hmn : (m : Int) ≠ 0 := by omega
      go_upto_region 5 with fail
      clear q3 f3
      go_wp2_with (first
        | (refine wpList_load_row rfl 42 _ rfl w0.heap.size rfl 42 _ (0, 0) _ hB3.out Tryz.underlying42 rfl (by rw [opA_size]; exact size_op) ?_)
        | (refine wpList_store_row rfl 42 _ _ rfl w.heap.size (opA e.v) rfl rfl 42 zeroOp hB2.out (by rw [opA_size]; exact size_op) (by rw [opA_size]; rfl) (opA_one _) ?_))
      exact bodyPost_ret (Blk.result2 rfl _ (hB2.out.row _) rfl Tryz.underlying42 rfl (by rw [opA_size]; exact size_op)) rfl (.inr ⟨e, O, _, rfl, rfl, FIN.out.1, FIN.out.2.1, rfl, FIN.out.2.2⟩)
end Go.Proofs.YtaaeomapbigfgaaGreat
