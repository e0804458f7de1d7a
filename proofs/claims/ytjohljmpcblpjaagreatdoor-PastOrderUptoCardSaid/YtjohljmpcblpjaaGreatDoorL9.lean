/- (*tree.Tree).all's iterator in a range over a function. An iterator's contract for a range over a function: the iterator may keep cells of its own. The law for a range over a function whose iterator keeps cells of its own: outermost. The law for a range over a function whose variable is a block of its own (the assignment lays it): outermost. -/
import Derived.Test.YtjohljmpcblpjaaGreatDoorL8
import Derived.RangeFuncNested
import Derived.RangeFuncLeaves
import Derived.Shelf.Abstract
import Derived.Shelf.RegionOpen
import Derived.OwnWalkIn
import Derived.TacticsInMore
import Derived.LoopNIn
import Derived.LoopIn
import Derived.RangeFuncBound
namespace Go.Proofs.YtjohljmpcblpjaaGreatDoor.Tr
open Go.RowKit Go.Proofs.YtjohljmpcblpjaaGreatDoor.St Go.Shelf
attribute [local go_sem] Oper.semAt_some
theorem wpListIn_append_keeps {F : Fence} {n : Nat} {P : Program} {α : Type} (E : Enc α) {w : World} {ops : Array Oper} {rest : List Oper} {o : Oper} {a : Act} {Q : Exit → Act → World → Prop} (hgd : o.guard = none) (s y : Operand) (t : TypeId)
    (ho : o.op = .call { callee := .builtin .append, args := #[s, y], argTypes := #[t, t] }) (base : Nat) (e : TypeId) (z : Value) (bytes : Nat) (ht : P.underlying t = some (.slice e))
    (hinfo : (P.info? e).map (fun i => (i.zero, i.size, i.bytes)) = some (some z, E.k, bytes)) (hzs : z.cells.size = E.k) (hb4 : bytes ≤ 4096) {v : Value} {D : List α} {x : α} {ad : Addr} {c : Nat} (hs : a.eval s = v) (hx : a.eval y = .slice (some ad) 1 c)
    (hown : w.ownsRow base e E.k v D.length (E.flat D)) (hL : SlAt E w (.slice (some ad) 1 c) [x]) (h63 : D.length ≤ 1000000) (hbase : base ≤ w.heap.size)
    (h : ∀ v' w', w'.ownsRow base e E.k v' (D.length + 1) (E.flat (D ++ [x])) → Grow1 w w' v v' → wpListIn F n P ops Q rest (a.put o.dst v') w') : wpListIn F n P ops Q (o :: rest) a w := by
  refine wpListIn_plain hgd fun K hK => ?_
  obtain ⟨v', w', hr, h2, h3⟩ := run_append_keeps (P := P) E t o.type e base z bytes ht hinfo hzs hb4 hown hL h63 hbase
  unfold Oper.wpIn
  refine ⟨?_, ?_⟩
  · simp [Oper.about, ho, resolve, Target.leads, Sem.run_pure]
  · rw [Oper.semAt_plain F _ _ (by rw [ho]; intro c hc'; cases hc')]
    simp only [ho, execOp, resolve, invoke, builtin, Sem.run_bind, Sem.run_pure, Result.andThen_ok, List.map_toArray, List.map_cons, List.map_nil, hs, hx, hr]
    exact hK _ _ (h v' w' h2 h3)
set_option maxRecDepth 100000 in
set_option maxHeartbeats 8000000 in
theorem all1_in {F0 : Fence} {n0 : Nat} (h62 : F0.fn 140) (hro : F0.round = none) (h1 : 1 ≤ n0) {w : World} {L : List Nd} {A : ID → Nat} {S : ID → Rw} {pl g : Nat} (hdoc : Doc L) (hlen : L.length ≤ 900000) (l : Nat) (I : Nat → (Nat → Prop) → World → Prop) (Z : World → Prop)
    (hrd : ∀ i X w, I i X w → w.cell? ⟨pl, 0, none⟩ = some (.pointer (some ⟨g, 0, none⟩)) ∧ Shape w g L A S) (hgr : ∀ i X w w', I i X w → Kept X w w' → I i (fun b => X b ∨ (w.heap.size ≤ b ∧ b < w'.heap.size)) w')
    (hy : ∀ i X n w, L[i]? = some n → I i X w → YieldAt F0 (n0 - 1) Tryz.prog l #[.pointer (some ⟨A n.id, 0, none⟩)] w fun e w' => ∃ b, e = .returned (.bool b) ∧ (∀ x, X x → w'.heap[x]? = w.heap[x]?) ∧ w.heap.size ≤ w'.heap.size ∧ (b = true → I (i + 1) X w') ∧ (b = false → Z w'))
    {X0 : Nat → Prop} (h : I 0 X0 w) :
    CallsIn F0 n0 Tryz.prog 140 #[.func (.yield l) #[] #[], .pointer (some ⟨pl, 0, none⟩)] w fun e w' => e = .returned (.tuple #[]) ∧ ((∃ X, I L.length X w') ∨ Z w') := by
  obtain ⟨F, hF, hw, hnd⟩ := hdoc
  obtain ⟨x0, hs0⟩ := hrd 0 X0 w h
  have r0 : w.cell? ⟨g, 0, none⟩ = some (.slice (S ID.zero).a (S ID.zero).n (S ID.zero).c) := hs0.root
  have RD := Lib.hid hrd
  have GR := Lib.hid hgr
  have HY := Lib.hid hy
  have HF := Lib.hid (And.intro hF (And.intro hw hnd))
  have B1 := Lib.hid (Blk.new w 161 #[.slice (S ID.zero).a (S ID.zero).n (S ID.zero).c])
  have k1 : Kept X0 w (w.alloc (.cells #[.slice (S ID.zero).a (S ID.zero).n (S ID.zero).c] 161)) := (Kept.refl _ _).alloc _
  have I1 := Lib.hid (hgr _ _ _ _ h k1)
  clear hrd hgr hy hs0 h k1 hF hw hnd
  refine callsIn_of_wp Tryz.func140 rfl h62 ?_ hro
  simp only [Tryz.ntmps140, List.size_toArray, List.length_cons, List.length_nil, Nat.reduceAdd, Nat.reduceSub, Array.replicate_succ, Array.replicate_zero, List.push_toArray, List.append_toArray, List.nil_append, List.cons_append]
  gi_wp2
  gi_loopw [3] (fun v wr => ∃ m, AllAt L A S F g I m v wr) (fun v wr => least (fun m => AllAt L A S F g I m v wr))
  case atStart =>
    refine ⟨_, 0, _, [(S ID.zero, F)], w.heap.size, 1, rfl, Nat.zero_le _, rfl, .inr ⟨Nat.le_refl _, by simp⟩, ⟨_, B1.out, rfl, Nat.le_refl _, by decide, fun i y hy j u hu => ?_⟩, fun e he => ?_, ?_, Nat.le_refl _, I1.out⟩
    · cases i with
      | zero =>
        have e1 : S ID.zero = y := by simpa using hy
        subst e1
        cases j with
        | zero => have : (S ID.zero).v = u := by simpa [rowE] using hu
                  rw [← this]; rfl
        | succ j => simp [rowE] at hu
      | succ i => simp at hy
    · rw [List.mem_singleton.1 he]; exact left_root HF.out.1 HF.out.2.1
    · simp [HF.out.1]
  case round =>
    clear B1 I1
    obtain ⟨i, X, st, gs, cap, hm, hi, rfl, hX, hO, hlf, hdr, hsl, hI⟩ := least_spec hrel
    have HM := Lib.hid hm
    clear hrel hm
    rcases last_of st with rfl | ⟨st', ⟨s, ts⟩, rfl⟩
    · have hiL : i = L.length := by
        have h1 : L.drop i = [] := by simpa using hdr
        have h2 := List.drop_eq_nil_iff.1 h1
        omega
      subst hiL
      have FI := Lib.hid hI
      clear hI hO hdr HM
      gi_wp2
      go_end0
      exact ⟨rfl, .inl ⟨_, FI.out⟩⟩
    have hl1 : (st' ++ [(s, ts)]).length = st'.length + 1 := by simp
    rw [hl1] at hsl HM
    rw [hl1]
    have hdr2 : L.drop i = flats ts ++ st'.reverse.flatMap (fun e => flats e.2) := by simpa using hdr
    have cp : wr.cell? ⟨gs, st'.length, none⟩ = some s.v := by
      have := hO.cell (i := st'.length) (j := 0) (x := s) (by simp) (u := s.v) rfl
      have hk : rowE.k = 1 := rfl
      rw [hk] at this
      simpa using this
    have fz := hO.frozen st'.length
    obtain ⟨hcell, hsh⟩ := RD.out _ _ _ hI
    have LF := Lib.hid hlf
    have hlast := hlf (s, ts) (by simp)
    have hrd0 : SlAt ptrE wr s.v (ts.map (fun t => A t.n.id)) := hlast.rd wr hsh
    have LA := Lib.hid hlast
    have SH := Lib.hid hsh
    have HI := Lib.hid hI
    have HO := Lib.hid hO
    have HD := Lib.hid hdr2
    have hcl := hO.le
    rw [List.length_map, hl1] at hcl
    have hst0 : (0 : Int) < (st'.length : Int) + 1 := by omega
    clear hlf hlast hsh hI hO hdr hdr2
    cases ts with
    | nil =>
      obtain ⟨sa, sc, hsv, _, _⟩ := hrd0.sl
      simp only [List.map_nil, List.length_nil] at hsv
      rw [hsv] at cp
      clear hrd0
      have NX : Hid (AllAt L A S F g I (2 * (L.length - i) + st'.length) (.slice (some ⟨gs, 0, none⟩) st'.length cap) wr) := Lib.hid
        ⟨i, X, st', gs, cap, rfl, hi, rfl, hX, by
          have := HO.out.take st'.length
          simpa using this, fun e he => LF.out e (List.mem_append_left _ he), by simpa [flats] using HD.out, by omega, HI.out⟩
      have hs1 : st'.length ≤ cap := by omega
      gi_wp2
      go_roundw
      case rel => exact ⟨_, NX.out⟩
      case measure =>
        have h1 := least_le (P := fun m => AllAt L A S F g I m (.slice (some ⟨gs, 0, none⟩) st'.length cap) wr) NX.out
        have h2 := HM.out
        omega
    | cons t ts =>
      obtain ⟨b, o, c, hsv, hc1, hc2, hb, hcs⟩ := hrd0.one (by simp)
      simp only [List.map_cons, List.length_cons, List.length_map] at hsv hc1
      rw [hsv] at cp
      have p0 : wr.cell? ⟨b, o, none⟩ = some (.pointer (some ⟨A t.n.id, 0, none⟩)) := by
        have := hcs 0 (A t.n.id) (by simp) 0 _ rfl
        simpa using this
      have hti : L[i]? = some t.n := by
        have := HD.out
        rw [show flats (t :: ts) = t.n :: (flats t.ks ++ flats ts) by show flat t ++ flats ts = _; rw [flat_eq]; rfl] at this
        have h2 := congrArg (fun l => l[0]?) this
        simpa using h2
      have hdn : L.drop (i + 1) = flats t.ks ++ (flats ts ++ st'.reverse.flatMap (fun e => flats e.2)) := by
        have := HD.out
        rw [show flats (t :: ts) = t.n :: (flats t.ks ++ flats ts) by show flat t ++ flats ts = _; rw [flat_eq]; rfl] at this
        have h2 := congrArg List.tail this
        rw [List.tail_drop] at h2
        rw [h2]
        simp
      have hts := LA.out.sub t List.mem_cons_self
      have hc0 : ts.length + 1 ≤ c := hc1
      have HTI := Lib.hid hti
      have HDN := Lib.hid hdn
      have HTS := Lib.hid hts
      have HSV := Lib.hid hsv
      have HCB := Lib.hid hb
      clear hti hdn hts hrd0 hcs hsv hb
      have hn0 : ¬ ((ts.length : Int) + 1 = 0) := by omega
      have hs0 : (0 : Int) < (ts.length : Int) + 1 := by omega
      have hs2 : st'.length < cap := by omega
      have HO2 : Hid (OwnAt rowE wr 161 gs cap (st'.map (·.1) ++ [s])) := Lib.hid (by have := HO.out; simpa using this)
      have hlm : (st'.map (·.1)).length = st'.length := List.length_map _
      rcases Decidable.em (c = 1) with rfl | hc9
      case inl =>
        have S1 := Lib.hid (own_last (s' := ⟨some ⟨b, o, none⟩, 0, 0⟩) HO2.out)
        have k1 : Kept X wr (wr.setCell ⟨gs, st'.length, none⟩ (.slice (some ⟨b, o, none⟩) 0 (0))) := (Kept.refl _ _).setCell (fun _ => hX) _
        have hts0 : ts.length = 0 := by omega
        have LR : Hid (Left g L A S F (⟨some ⟨b, o, none⟩, 0, 0⟩, ts)) := Lib.hid (by have h9 := LA.out.rest (o' := o) HSV.out hc0 (.inl rfl); rw [hts0] at h9; exact h9)
        have hI1 := GR.out _ _ _ _ HI.out k1
        obtain ⟨fn, tmps, assign, body, hy, hR⟩ := HY.out _ _ _ _ HTI.out hI1
        have XG := Lib.hid (Or.inl (b := (wr.heap.size ≤ gs ∧ gs < (wr.setCell ⟨gs, st'.length, none⟩ (.slice (some ⟨b, o, none⟩) 0 (0))).heap.size)) hX)
        clear k1 hI1
        gi_wp2
        refine hR.mono ?_
        clear hR
        rintro e w2 ⟨bb, rfl, hk2, hz2, ht, hf⟩
        have O2 := Lib.hid (own_still (w' := w2) S1.out (by rw [hlm]; exact hk2 gs XG.out))
        clear hk2 hz2 S1
        cases bb with
        | false =>
          have Z2 := Lib.hid (hf rfl)
          clear ht hf cp p0 fz hcell
          gi_wp2
          refine bodyPost_ret (results_none rfl _ _ _) rfl ?_
          exact ⟨rfl, .inr Z2.out⟩
        | true =>
          have I2 := Lib.hid (ht rfl)
          clear ht hf cp p0 fz hcell
          obtain ⟨_, hsh2⟩ := RD.out _ _ _ I2.out
          have x6 : w2.cell? ⟨A t.n.id, 6, none⟩ = some (.slice (S t.n.id).a (S t.n.id).n (S t.n.id).c) := hsh2.beh t.n (List.mem_of_getElem? HTI.out)
          have LK := Lib.hid (left_kids (g := g) (A := A) (S := S) HF.out.1 HF.out.2.1 HF.out.2.2 HTS.out)
          have hrow : SlAt ptrE w2 (.slice (S t.n.id).a (S t.n.id).n (S t.n.id).c) (t.ks.map (fun t => A t.n.id)) := LK.out.rd w2 hsh2
          have hrn : (S t.n.id).n = t.ks.length := by
            obtain ⟨_, _, h1, _, _⟩ := hrow.sl
            injection h1 with _ h2 _
            simpa using h2
          rw [hrn] at x6
          clear hrow hsh2
          have hil : i < L.length := (List.getElem?_eq_some_iff.1 HTI.out).1
          by_cases hks : t.ks = []
          · have hk0 : t.ks.length = 0 := by rw [hks]; rfl
            rw [hk0] at x6
            have NX : Hid (AllAt L A S F g I (2 * (L.length - (i + 1)) + (st'.length + 1)) (.slice (some ⟨gs, 0, none⟩) (st'.length + 1) cap) w2) := Lib.hid
              ⟨i + 1, _, st' ++ [(_, ts)], gs, cap, by simp, by omega, by simp, XG.out, by simpa using O2.out, left_snoc LF.out LR.out, by rw [HDN.out, hks]; simp [flats], by simp; omega, I2.out⟩
            gi_wp2
            go_roundw
            case rel => exact ⟨_, NX.out⟩
            case measure =>
              have h1 := least_le (P := fun m => AllAt L A S F g I m (.slice (some ⟨gs, 0, none⟩) (st'.length + 1) cap) w2) NX.out
              have h2 := HM.out
              omega
          · have hk0 : (0 : Int) < (t.ks.length : Int) := by
              have := List.length_pos_iff.2 hks
              omega
            have LQ := Lib.hid (lit_row w2 161 ⟨(S t.n.id).a, t.ks.length, (S t.n.id).c⟩)
            have k3 : Kept (fun _ => False) w2 (w2.alloc (.cells #[.slice (S t.n.id).a t.ks.length (S t.n.id).c] 161)) := (Kept.refl _ _).alloc _
            have hO3 := O2.out.keep k3 (fun h => h)
            have O3 := Lib.hid (own_val (n := st'.length + 1) (by simp) hO3)
            have RL : Hid ((st'.map (·.1) ++ [(⟨some ⟨b, o, none⟩, 0, 0⟩ : Rw)]).length ≤ 1000000) := Lib.hid (by simp; omega)
            have I3 := Lib.hid (GR.out _ _ _ _ I2.out (k3.mono (fun _ _ h => h.elim)))
            clear k3 hO3
            gi_wp2_with (gi_at_builtin; (refine wpListIn_append_keeps rowE rfl (.tmp 52) (.tmp 57) 215 rfl 0 161 (.slice none 0 0) 24 Tryz.underlying215 info_slice rfl (by decide) rfl rfl O3.out LQ.out RL.out (Nat.zero_le _) ?_); (intro v4 w4 ho4 hg4))
            have NX : Hid (∃ n, n < 2 * (L.length - i) + (st'.length + 1) ∧ AllAt L A S F g I n v4 w4) := Lib.hid (by
              have hd : L.drop (i + 1) = (st' ++ [((⟨some ⟨b, o, none⟩, 0, 0⟩ : Rw), ts)] ++ [(S t.n.id, t.ks)]).reverse.flatMap (fun e => flats e.2) := by rw [HDN.out]; simp
              have hlf := left_snoc2 (left_snoc LF.out LR.out) LK.out
              exact all_pushed (st := st' ++ [(_, ts)]) ho4 hg4 (by simp) (.inl XG.out) (GR.out _ _ _ _ I3.out (grow_kept hg4 (.inl XG.out))) (row_eq hrn) hlf hd hil (by simp; omega) (by simp))
            obtain ⟨n4, NX1, NX2⟩ := NX.out
            have N2 := Lib.hid NX2
            clear NX NX2 ho4 hg4
            go_roundw
            case rel => exact ⟨_, N2.out⟩
            case measure =>
              have h1 := least_le (P := fun m => AllAt L A S F g I m v4 w4) N2.out
              have h2 := HM.out
              omega
      case inr =>
        have S1 := Lib.hid (own_last (s' := ⟨some ⟨b, (o + 1), none⟩, ts.length, c - 1⟩) HO2.out)
        have k1 : Kept X wr (wr.setCell ⟨gs, st'.length, none⟩ (.slice (some ⟨b, (o + 1), none⟩) ts.length (c - 1))) := (Kept.refl _ _).setCell (fun _ => hX) _
        have LR := Lib.hid (LA.out.rest (o' := (o + 1)) HSV.out hc0 (.inr rfl))
        have hI1 := GR.out _ _ _ _ HI.out k1
        obtain ⟨fn, tmps, assign, body, hy, hR⟩ := HY.out _ _ _ _ HTI.out hI1
        have XG := Lib.hid (Or.inl (b := (wr.heap.size ≤ gs ∧ gs < (wr.setCell ⟨gs, st'.length, none⟩ (.slice (some ⟨b, (o + 1), none⟩) ts.length (c - 1))).heap.size)) hX)
        clear k1 hI1
        gi_wp2
        refine hR.mono ?_
        clear hR
        rintro e w2 ⟨bb, rfl, hk2, hz2, ht, hf⟩
        have O2 := Lib.hid (own_still (w' := w2) S1.out (by rw [hlm]; exact hk2 gs XG.out))
        clear hk2 hz2 S1
        cases bb with
        | false =>
          have Z2 := Lib.hid (hf rfl)
          clear ht hf cp p0 fz hcell
          gi_wp2
          refine bodyPost_ret (results_none rfl _ _ _) rfl ?_
          exact ⟨rfl, .inr Z2.out⟩
        | true =>
          have I2 := Lib.hid (ht rfl)
          clear ht hf cp p0 fz hcell
          obtain ⟨_, hsh2⟩ := RD.out _ _ _ I2.out
          have x6 : w2.cell? ⟨A t.n.id, 6, none⟩ = some (.slice (S t.n.id).a (S t.n.id).n (S t.n.id).c) := hsh2.beh t.n (List.mem_of_getElem? HTI.out)
          have LK := Lib.hid (left_kids (g := g) (A := A) (S := S) HF.out.1 HF.out.2.1 HF.out.2.2 HTS.out)
          have hrow : SlAt ptrE w2 (.slice (S t.n.id).a (S t.n.id).n (S t.n.id).c) (t.ks.map (fun t => A t.n.id)) := LK.out.rd w2 hsh2
          have hrn : (S t.n.id).n = t.ks.length := by
            obtain ⟨_, _, h1, _, _⟩ := hrow.sl
            injection h1 with _ h2 _
            simpa using h2
          rw [hrn] at x6
          clear hrow hsh2
          have hil : i < L.length := (List.getElem?_eq_some_iff.1 HTI.out).1
          by_cases hks : t.ks = []
          · have hk0 : t.ks.length = 0 := by rw [hks]; rfl
            rw [hk0] at x6
            have NX : Hid (AllAt L A S F g I (2 * (L.length - (i + 1)) + (st'.length + 1)) (.slice (some ⟨gs, 0, none⟩) (st'.length + 1) cap) w2) := Lib.hid
              ⟨i + 1, _, st' ++ [(_, ts)], gs, cap, by simp, by omega, by simp, XG.out, by simpa using O2.out, left_snoc LF.out LR.out, by rw [HDN.out, hks]; simp [flats], by simp; omega, I2.out⟩
            gi_wp2
            go_roundw
            case rel => exact ⟨_, NX.out⟩
            case measure =>
              have h1 := least_le (P := fun m => AllAt L A S F g I m (.slice (some ⟨gs, 0, none⟩) (st'.length + 1) cap) w2) NX.out
              have h2 := HM.out
              omega
          · have hk0 : (0 : Int) < (t.ks.length : Int) := by
              have := List.length_pos_iff.2 hks
              omega
            have LQ := Lib.hid (lit_row w2 161 ⟨(S t.n.id).a, t.ks.length, (S t.n.id).c⟩)
            have k3 : Kept (fun _ => False) w2 (w2.alloc (.cells #[.slice (S t.n.id).a t.ks.length (S t.n.id).c] 161)) := (Kept.refl _ _).alloc _
            have hO3 := O2.out.keep k3 (fun h => h)
            have O3 := Lib.hid (own_val (n := st'.length + 1) (by simp) hO3)
            have RL : Hid ((st'.map (·.1) ++ [(⟨some ⟨b, (o + 1), none⟩, ts.length, c - 1⟩ : Rw)]).length ≤ 1000000) := Lib.hid (by simp; omega)
            have I3 := Lib.hid (GR.out _ _ _ _ I2.out (k3.mono (fun _ _ h => h.elim)))
            clear k3 hO3
            gi_wp2_with (gi_at_builtin; (refine wpListIn_append_keeps rowE rfl (.tmp 52) (.tmp 57) 215 rfl 0 161 (.slice none 0 0) 24 Tryz.underlying215 info_slice rfl (by decide) rfl rfl O3.out LQ.out RL.out (Nat.zero_le _) ?_); (intro v4 w4 ho4 hg4))
            have NX : Hid (∃ n, n < 2 * (L.length - i) + (st'.length + 1) ∧ AllAt L A S F g I n v4 w4) := Lib.hid (by
              have hd : L.drop (i + 1) = (st' ++ [((⟨some ⟨b, (o + 1), none⟩, ts.length, c - 1⟩ : Rw), ts)] ++ [(S t.n.id, t.ks)]).reverse.flatMap (fun e => flats e.2) := by rw [HDN.out]; simp
              have hlf := left_snoc2 (left_snoc LF.out LR.out) LK.out
              exact all_pushed (st := st' ++ [(_, ts)]) ho4 hg4 (by simp) (.inl XG.out) (GR.out _ _ _ _ I3.out (grow_kept hg4 (.inl XG.out))) (row_eq hrn) hlf hd hil (by simp; omega) (by simp))
            obtain ⟨n4, NX1, NX2⟩ := NX.out
            have N2 := Lib.hid NX2
            clear NX NX2 ho4 hg4
            go_roundw
            case rel => exact ⟨_, N2.out⟩
            case measure =>
              have h1 := least_le (P := fun m => AllAt L A S F g I m v4 w4) N2.out
              have h2 := HM.out
              omega
end Go.Proofs.YtjohljmpcblpjaaGreatDoor.Tr
namespace Go.Proofs.YtjohljmpcblpjaaGreatDoor.Tr
open Go.RowKit Go.Proofs.YtjohljmpcblpjaaGreatDoor.St Go.Shelf
/-- the iterator gf (with lb captured) hands enc 0 .. enc (N - 1) to yield, while Rd stands; X: the blocks it keeps for itself -/
def IterOk (F : Fence) (n : Nat) (P : Program) (gf : FuncId) (lb : Array Value) (N : Nat) (enc : Nat → Array Value) (Rd : World → Prop) : Prop :=
  ∀ (l : Nat) (I : Nat → (Nat → Prop) → World → Prop) (Z : (Nat → Prop) → World → Prop) (X0 : Nat → Prop) (W : World), (∀ i X w, I i X w → Rd w) →
    (∀ i X w w', I i X w → Kept X w w' → I i (fun b => X b ∨ (w.heap.size ≤ b ∧ b < w'.heap.size)) w') →
    (∀ X w w', Z X w → Kept X w w' → Z (fun b => X b ∨ (w.heap.size ≤ b ∧ b < w'.heap.size)) w') →
    (∀ i X w, i < N → I i X w → YieldAt F (n - 1) P l (enc i) w fun e w' => ∃ b, e = .returned (.bool b) ∧ (∀ x, X x → w'.heap[x]? = w.heap[x]?) ∧ w.heap.size ≤ w'.heap.size ∧ (b = true → I (i + 1) X w') ∧ (b = false → Z X w')) →
    I 0 X0 W → CallsIn F n P gf (#[.func (.yield l) #[] #[]] ++ lb) W fun e w' => (∃ v, e = .returned v) ∧ ((∃ X, I N X w') ∨ ∃ X, Z X w')
/-- the element of a number -/
def nth (L : List Nd) (i : Nat) : Nd := L[i]?.getD default
theorem nth_some {L : List Nd} {i : Nat} {m : Nd} (h : L[i]? = some m) : nth L i = m := by unfold nth; rw [h]; rfl
theorem nth_lt {L : List Nd} {i : Nat} (h : i < L.length) : L[i]? = some (nth L i) := by unfold nth; rw [List.getElem?_eq_getElem h]; rfl
/-- what all hands over -/
def allEnc (L : List Nd) (A : ID → Nat) (i : Nat) : Array Value := #[.pointer (some ⟨A (nth L i).id, 0, none⟩)]
theorem all1_iter {F : Fence} {n : Nat} (h62 : F.fn 140) (hro : F.round = none) (h1 : 1 ≤ n) {L : List Nd} {A : ID → Nat} {S : ID → Rw} {pl g : Nat} (hdoc : Doc L) (hlen : L.length ≤ 900000) :
    IterOk F n Tryz.prog 140 #[.pointer (some ⟨pl, 0, none⟩)] L.length (allEnc L A) (fun w => w.cell? ⟨pl, 0, none⟩ = some (.pointer (some ⟨g, 0, none⟩)) ∧ Shape w g L A S) :=
  fun l I Z X0 W hrd hgr _ hy h0 => by
    have h := all1_in h62 hro h1 (w := W) (pl := pl) (g := g) (A := A) (S := S) hdoc hlen l I (fun w => ∃ X, Z X w) hrd hgr (fun i X m w hm hI => by
      have h2 := hy i X w (List.getElem?_eq_some_iff.1 hm).1 hI
      unfold allEnc at h2
      rw [nth_some hm] at h2
      exact YieldAt.mono h2 fun e w' ⟨b, k1, k2, k3, k4, k5⟩ => ⟨b, k1, k2, k3, k4, fun hb => ⟨X, k5 hb⟩⟩) h0
    exact h.mono fun e w' ⟨he, hz⟩ => ⟨⟨_, he⟩, hz⟩
end Go.Proofs.YtjohljmpcblpjaaGreatDoor.Tr
namespace Go.Proofs.YtjohljmpcblpjaaGreatDoor.Tr
open Go.RowKit Go.Proofs.YtjohljmpcblpjaaGreatDoor.St Go.Shelf
/-- how a round's body may be left -/
def iterPost (B : Nat) (J : Nat → (Nat → Prop) → World → Prop) (Jx : Code → (Nat → Prop) → World → Prop) (i : Nat) (X : Nat → Prop) (W : World) (e : Exit) (_ : Act) (W' : World) : Prop :=
  (∀ x, X x ∨ x = B ∨ x = B + 1 → W'.heap[x]? = W.heap[x]?) ∧ W.heap.size ≤ W'.heap.size ∧ match e with
  | .normal => J (i + 1) X W'
  | .ret => Jx .ret X W'
  | .exit id => Jx (.exit id) X W'
  | .goto t => Jx (.goto t) X W'
  | .panic _ => False
  | .outgrown => False
theorem wpIn_iter {F : Fence} {n : Nat} {P : Program} {g : Operand} {ps : Array Tmp} {assign body : Code} {Q : Exit → Act → World → Prop} {a : Act} {w : World} (hro : F.round = none) (h1 : 1 ≤ n)
    {gf : Nat} {lb : Array Value} (hg : a.eval g = .func (.func gf) #[] lb) (hFg : F.fn gf) (eg : ∀ args w, (callFunc gf args).run P w = .ok (.enter gf args) w)
    {N : Nat} {enc : Nat → Array Value} {Rd : World → Prop} (hit : IterOk F (n - 1) P gf lb N enc Rd) (hps : ∀ i, i < N → (enc i).size = ps.size)
    (B : Nat) (hB : w.heap.size = B) (J : Nat → (Nat → Prop) → World → Prop) (Jx : Code → (Nat → Prop) → World → Prop) (hrd : ∀ i X W, J i X W → Rd W)
    (hgr : ∀ i X W W', J i X W → Kept X W W' → J i (fun b => X b ∨ (W.heap.size ≤ b ∧ b < W'.heap.size)) W')
    (hgx : ∀ c X W W', Jx c X W → Kept X W W' → Jx c (fun b => X b ∨ (W.heap.size ≤ b ∧ b < W'.heap.size)) W')
    (hob : ∀ i X W o', J i X W → J i X (W.putObj (B + 1) o')) (hox : ∀ c X W o', Jx c X W → Jx c X (W.putObj (B + 1) o'))
    (h0 : ∀ o1 o2, J 0 (fun _ => False) ((w.alloc o1).alloc o2))
    (hround : ∀ (i : Nat) (W : World) (K : Act → World → Prop), i < N → (∀ a1, (∀ X W2, B + 1 < W2.heap.size → J i X W2 → body.wpIn (F.inRound (B + 1)) (n - 1 - 1) P (iterPost B J Jx i X W2) a1 W2) → K a1 W) → assign.wpIn (F.inRound (B + 1)) (n - 1 - 1) P (Exit.then K (fun _ _ _ => False)) { tmps := (ps.zip (enc i)).foldl (fun t (p, v) => t.setIfInBounds p v) a.tmps, defers := [] } W)
    (hdone : ∀ (X : Nat → Prop) (W : World), J N X W → W.heap[B]? = some (.deferred (some [])) → Q .normal { a with defers := { target := .collected B, args := #[] } :: a.defers } W)
    (hstop : ∀ (c : Code) (X : Nat → Prop) (W : World), Jx c X W → W.heap[B]? = some (.deferred (some [])) → c.wpIn F n P Q { a with defers := { target := .collected B, args := #[] } :: a.defers } W) :
    (Code.rangeFunc g ps assign body).wpIn F n P Q a w := by
  subst hB
  refine wpIn_rangeFunc ?_
  intro fn hfn
  rw [hro]
  obtain ⟨rec, hrec⟩ : ∃ rec : LoopState → Option Code → Loop, rec = fun st pe => { state := st, pending := pe, fn, tmps := a.tmps, params := ps, assign, body, defers := w.heap.size } := ⟨_, rfl⟩
  obtain ⟨W1, hW1⟩ : ∃ W1, (w.alloc (.deferred (some []))).alloc (.loop (rec .ready none)) = W1 := ⟨_, rfl⟩
  have hL1 : W1.heap[w.heap.size + 1]? = some (.loop (rec .ready none)) := by
    rw [← hW1]; have := World.alloc_heap_new (w.alloc (.deferred (some []))) (.loop (rec .ready none)); rwa [World.size_alloc] at this
  have hD1 : W1.heap[w.heap.size]? = some (.deferred (some [])) := by
    rw [← hW1]; exact (Below.heap_alloc _ _ _ (by simp)).trans (World.alloc_heap_new w _)
  have hJ1 : J 0 (fun _ => False) W1 := by rw [← hW1]; exact h0 _ _
  refine ⟨w.heap.size + 1, [{ target := .collected w.heap.size, args := #[] }], W1, { target := .fn (.func gf) lb, args := #[.func (.yield (w.heap.size + 1)) #[] #[]] }, W1, gf, #[.func (.yield (w.heap.size + 1)) #[] #[]] ++ lb, W1, ?_, ?_, ?_, ?_, fun _ => h1, ?_⟩
  · rw [← hW1, hrec]; exact run_enterLoop_outer _ _ _ _ _
  · simp only [resolve, hg]
    simp [go_sem]
  · intro f' hf'; simp [Target.leads] at hf'; subst hf'; exact hFg
  · simp [invoke, go_sem, eg]
  refine (hit (w.heap.size + 1)
    (fun i X W => J i X W ∧ ¬ X (w.heap.size + 1) ∧ ¬ X w.heap.size ∧ W.heap[w.heap.size + 1]? = some (.loop (rec .ready none)) ∧ W.heap[w.heap.size]? = some (.deferred (some [])))
    (fun X W => ∃ c, Jx c X W ∧ ¬ X (w.heap.size + 1) ∧ ¬ X w.heap.size ∧ W.heap[w.heap.size + 1]? = some (.loop (rec .done (some c))) ∧ W.heap[w.heap.size]? = some (.deferred (some [])))
    (fun _ => False) W1 (fun i X W h => hrd i X W h.1) ?_ ?_ ?_ ⟨hJ1, fun h => h, fun h => h, hL1, hD1⟩).mono ?_
  · rintro i X W W' ⟨hj, x1, x2, hl, hd⟩ hk
    have l1 := (Array.getElem?_eq_some_iff.1 hl).1
    have l2 := (Array.getElem?_eq_some_iff.1 hd).1
    exact ⟨hgr i X W W' hj hk, fun h => by rcases h with h | h; exact x1 h; omega, fun h => by rcases h with h | h; exact x2 h; omega, (hk.block _ l1 x1).trans hl, (hk.block _ l2 x2).trans hd⟩
  · rintro X W W' ⟨c, hj, x1, x2, hl, hd⟩ hk
    have l1 := (Array.getElem?_eq_some_iff.1 hl).1
    have l2 := (Array.getElem?_eq_some_iff.1 hd).1
    exact ⟨c, hgx c X W W' hj hk, fun h => by rcases h with h | h; exact x1 h; omega, fun h => by rcases h with h | h; exact x2 h; omega, (hk.block _ l1 x1).trans hl, (hk.block _ l2 x2).trans hd⟩
  · rintro i X W hi ⟨hj, x1, x2, hl, hd⟩
    have hlt := (Array.getElem?_eq_some_iff.1 hl).1
    have hy := run_yield (P := P) (args := enc i) hl (by rw [hrec]; exact (hps i hi).symm ▸ rfl)
    rw [hrec] at hy
    refine ⟨fn, _, assign, body, hy, roundIn_of_wpIn hfn (hround i W _ hi fun a1 h9 => ?_)⟩
    · refine ⟨_, run_beginRound hl (by rw [hrec]), ?_⟩
      obtain ⟨busy, hbz⟩ : ∃ b : Loop, b = { rec .ready none with state := .busy } := ⟨_, rfl⟩
      rw [← hbz]
      have hl2 : (W.putObj (w.heap.size + 1) (.loop busy)).heap[w.heap.size + 1]? = some (.loop busy) := World.putObj_heap_same hlt
      have hd2 : (W.putObj (w.heap.size + 1) (.loop busy)).heap[w.heap.size]? = some (.deferred (some [])) := (World.putObj_heap_other (by omega)).trans hd
      refine wpIn_mono (h9 X _ (by simpa using hlt) (hob _ _ _ _ hj)) ?_
      have fin : ∀ (jump : Option Code) (W3 : World), (∀ x, X x ∨ x = w.heap.size ∨ x = w.heap.size + 1 → W3.heap[x]? = (W.putObj (w.heap.size + 1) (.loop busy)).heap[x]?) →
          (Instr.endRound (w.heap.size + 1) jump).run P W3 = .ok (.bool jump.isNone) (W3.putObj (w.heap.size + 1) (.loop (rec (if jump.isNone then .ready else .done) jump))) ∧ W3.heap[w.heap.size + 1]? = some (.loop busy) ∧
          (W3.putObj (w.heap.size + 1) (.loop (rec (if jump.isNone then .ready else .done) jump))).heap[w.heap.size + 1]? = some (.loop (rec (if jump.isNone then .ready else .done) jump)) ∧
          (W3.putObj (w.heap.size + 1) (.loop (rec (if jump.isNone then .ready else .done) jump))).heap[w.heap.size]? = some (.deferred (some [])) ∧
          (∀ x, X x → (W3.putObj (w.heap.size + 1) (.loop (rec (if jump.isNone then .ready else .done) jump))).heap[x]? = W.heap[x]?) := fun jump W3 hk3 => by
        have hl3 := (hk3 _ (.inr (.inr rfl))).trans hl2
        have h9 := run_endRound (P := P) jump hl3
        rw [hbz, hrec] at h9
        rw [hrec]
        refine ⟨h9, hl3, World.putObj_heap_same (Array.getElem?_eq_some_iff.1 hl3).1, (World.putObj_heap_other (by omega)).trans ((hk3 _ (.inr (.inl rfl))).trans hd2), fun x hx => ?_⟩
        have hne : x ≠ w.heap.size + 1 := fun e => x1 (e ▸ hx)
        exact (World.putObj_heap_other hne).trans ((hk3 x (.inl hx)).trans (World.putObj_heap_other hne))
      rintro e a3 W3 ⟨hkx, hs, hp⟩
      have hs3 : W.heap.size ≤ W3.heap.size := by simpa using hs
      cases e with
      | normal =>
        obtain ⟨hr, hl3, hl4, hd4, hx4⟩ := fin none W3 hkx
        exact ⟨_, _, hr, true, rfl, hx4, by simpa using hs3, fun _ => ⟨hob _ _ _ _ hp, x1, x2, hl4, hd4⟩, fun h => by cases h⟩
      | ret =>
        obtain ⟨hr, hl3, hl4, hd4, hx4⟩ := fin (some .ret) W3 hkx
        exact ⟨_, _, hr, false, rfl, hx4, by simpa using hs3, (fun h => by cases h), fun _ => ⟨.ret, hox _ _ _ _ hp, x1, x2, hl4, hd4⟩⟩
      | exit id =>
        obtain ⟨hr, hl3, hl4, hd4, hx4⟩ := fin (some (.exit id)) W3 hkx
        exact ⟨_, _, hr, false, rfl, hx4, by simpa using hs3, (fun h => by cases h), fun _ => ⟨(.exit id), hox _ _ _ _ hp, x1, x2, hl4, hd4⟩⟩
      | goto t =>
        obtain ⟨hr, hl3, hl4, hd4, hx4⟩ := fin (some (.goto t)) W3 hkx
        exact ⟨_, _, hr, false, rfl, hx4, by simpa using hs3, (fun h => by cases h), fun _ => ⟨(.goto t), hox _ _ _ _ hp, x1, x2, hl4, hd4⟩⟩
      | panic _ => exact hp.elim
      | outgrown => exact hp.elim
  · rintro e W3 ⟨⟨v, rfl⟩, h⟩
    rcases h with ⟨X, hj, _, _, hl, hd⟩ | ⟨X, c, hj, _, _, hl, hd⟩
    · have h9 := run_endLoop (P := P) hl (by rw [hrec]; simp)
      refine ⟨_, _, h9, ?_⟩
      rw [hrec]
      exact hdone X _ (hob _ _ _ _ hj) ((World.putObj_heap_other (by omega)).trans hd)
    · have h9 := run_endLoop (P := P) hl (by rw [hrec]; simp)
      refine ⟨_, _, h9, ?_⟩
      rw [hrec]
      exact hstop c X _ (hox _ _ _ _ hj) ((World.putObj_heap_other (by omega)).trans hd)
/-- what turns cells alone keeps the others -/
theorem kept_others {X : Nat → Prop} {W W' : World} (hk : Kept X W W') (hx : ∀ b o, X b → W.heap[b]? = some o → o.isCells = true) : KeepsOthers W W' :=
  ⟨hk.size, fun k o hko ho => by
    by_cases h : X k
    · rw [hx k o h hko] at ho; cases ho
    · exact (hk.block k (Array.getElem?_eq_some_iff.1 hko).1 h).trans hko⟩
end Go.Proofs.YtjohljmpcblpjaaGreatDoor.Tr
namespace Go.Proofs.YtjohljmpcblpjaaGreatDoor.Tr
open Go.RowKit Go.Proofs.YtjohljmpcblpjaaGreatDoor.St Go.Shelf
/-- an iterator's contract where it begins in a state of its own (St), some blocks being its own from the beginning (X0) -/
def IterOkS (F : Fence) (n : Nat) (P : Program) (gf : FuncId) (lb : Array Value) (N : Nat) (enc : Nat → Array Value) (Rd : World → Prop) (St : (Nat → Prop) → World → Prop) : Prop :=
  ∀ (l : Nat) (I : Nat → (Nat → Prop) → World → Prop) (Z : (Nat → Prop) → World → Prop) (X0 : Nat → Prop) (W : World), (∀ i X w, I i X w → Rd w) →
    (∀ i X w w', I i X w → Kept X w w' → I i (fun b => X b ∨ (w.heap.size ≤ b ∧ b < w'.heap.size)) w') →
    (∀ X w w', Z X w → Kept X w w' → Z (fun b => X b ∨ (w.heap.size ≤ b ∧ b < w'.heap.size)) w') →
    (∀ i X w, i < N → I i X w → YieldAt F (n - 1) P l (enc i) w fun e w' => ∃ b, e = .returned (.bool b) ∧ (∀ x, X x → w'.heap[x]? = w.heap[x]?) ∧ w.heap.size ≤ w'.heap.size ∧ (b = true → I (i + 1) X w') ∧ (b = false → Z X w')) →
    St X0 W → I 0 X0 W → CallsIn F n P gf (#[.func (.yield l) #[] #[]] ++ lb) W fun e w' => (∃ v, e = .returned v) ∧ ((∃ X, I N X w') ∨ ∃ X, Z X w')
theorem wpIn_iterS {F : Fence} {n : Nat} {P : Program} {g : Operand} {ps : Array Tmp} {assign body : Code} {Q : Exit → Act → World → Prop} {a : Act} {w : World} (hro : F.round = none) (h1 : 1 ≤ n)
    {gf : Nat} {lb : Array Value} (hg : a.eval g = .func (.func gf) #[] lb) (hFg : F.fn gf) (eg : ∀ args w, (callFunc gf args).run P w = .ok (.enter gf args) w)
    {N : Nat} {enc : Nat → Array Value} {Rd : World → Prop} {St : (Nat → Prop) → World → Prop} (hit : IterOkS F (n - 1) P gf lb N enc Rd St) (X0 : Nat → Prop) (hps : ∀ i, i < N → (enc i).size = ps.size)
    (B : Nat) (hB : w.heap.size = B) (hX0 : ∀ b, X0 b → b < B) (hst : ∀ o1 o2, St X0 ((w.alloc o1).alloc o2)) (J : Nat → (Nat → Prop) → World → Prop) (Jx : Code → (Nat → Prop) → World → Prop) (hrd : ∀ i X W, J i X W → Rd W)
    (hgr : ∀ i X W W', J i X W → Kept X W W' → J i (fun b => X b ∨ (W.heap.size ≤ b ∧ b < W'.heap.size)) W')
    (hgx : ∀ c X W W', Jx c X W → Kept X W W' → Jx c (fun b => X b ∨ (W.heap.size ≤ b ∧ b < W'.heap.size)) W')
    (hob : ∀ i X W o', J i X W → J i X (W.putObj (B + 1) o')) (hox : ∀ c X W o', Jx c X W → Jx c X (W.putObj (B + 1) o'))
    (h0 : ∀ o1 o2, J 0 X0 ((w.alloc o1).alloc o2))
    (hxl : ∀ i X W, J i X W → ∀ x, X x → x < W.heap.size)
    (hround : ∀ (i : Nat) (X : Nat → Prop) (W : World), i < N → B + 1 < W.heap.size → J i X W → assign.wpIn (F.inRound (B + 1)) (n - 1 - 1) P (Exit.then (fun a1 W1 => Kept (fun _ => False) W W1 ∧ ∀ o', body.wpIn (F.inRound (B + 1)) (n - 1 - 1) P (iterPost B J Jx i X (W1.putObj (B + 1) o')) a1 (W1.putObj (B + 1) o')) (fun _ _ _ => False)) { tmps := (ps.zip (enc i)).foldl (fun t (p, v) => t.setIfInBounds p v) a.tmps, defers := [] } W)
    (hdone : ∀ (X : Nat → Prop) (W : World), J N X W → W.heap[B]? = some (.deferred (some [])) → Q .normal { a with defers := { target := .collected B, args := #[] } :: a.defers } W)
    (hstop : ∀ (c : Code) (X : Nat → Prop) (W : World), Jx c X W → W.heap[B]? = some (.deferred (some [])) → c.wpIn F n P Q { a with defers := { target := .collected B, args := #[] } :: a.defers } W) :
    (Code.rangeFunc g ps assign body).wpIn F n P Q a w := by
  subst hB
  refine wpIn_rangeFunc ?_
  intro fn hfn
  rw [hro]
  obtain ⟨rec, hrec⟩ : ∃ rec : LoopState → Option Code → Loop, rec = fun st pe => { state := st, pending := pe, fn, tmps := a.tmps, params := ps, assign, body, defers := w.heap.size } := ⟨_, rfl⟩
  obtain ⟨W1, hW1⟩ : ∃ W1, (w.alloc (.deferred (some []))).alloc (.loop (rec .ready none)) = W1 := ⟨_, rfl⟩
  have hL1 : W1.heap[w.heap.size + 1]? = some (.loop (rec .ready none)) := by
    rw [← hW1]; have := World.alloc_heap_new (w.alloc (.deferred (some []))) (.loop (rec .ready none)); rwa [World.size_alloc] at this
  have hD1 : W1.heap[w.heap.size]? = some (.deferred (some [])) := by
    rw [← hW1]; exact (Below.heap_alloc _ _ _ (by simp)).trans (World.alloc_heap_new w _)
  have hJ1 : J 0 X0 W1 := by rw [← hW1]; exact h0 _ _
  have hS1 : St X0 W1 := by rw [← hW1]; exact hst _ _
  refine ⟨w.heap.size + 1, [{ target := .collected w.heap.size, args := #[] }], W1, { target := .fn (.func gf) lb, args := #[.func (.yield (w.heap.size + 1)) #[] #[]] }, W1, gf, #[.func (.yield (w.heap.size + 1)) #[] #[]] ++ lb, W1, ?_, ?_, ?_, ?_, fun _ => h1, ?_⟩
  · rw [← hW1, hrec]; exact run_enterLoop_outer _ _ _ _ _
  · simp only [resolve, hg]
    simp [go_sem]
  · intro f' hf'; simp [Target.leads] at hf'; subst hf'; exact hFg
  · simp [invoke, go_sem, eg]
  refine (hit (w.heap.size + 1)
    (fun i X W => J i X W ∧ ¬ X (w.heap.size + 1) ∧ ¬ X w.heap.size ∧ W.heap[w.heap.size + 1]? = some (.loop (rec .ready none)) ∧ W.heap[w.heap.size]? = some (.deferred (some [])))
    (fun X W => ∃ c, Jx c X W ∧ ¬ X (w.heap.size + 1) ∧ ¬ X w.heap.size ∧ W.heap[w.heap.size + 1]? = some (.loop (rec .done (some c))) ∧ W.heap[w.heap.size]? = some (.deferred (some [])))
    X0 W1 (fun i X W h => hrd i X W h.1) ?_ ?_ ?_ hS1 ⟨hJ1, fun h => by have := hX0 _ h; omega, fun h => by have := hX0 _ h; omega, hL1, hD1⟩).mono ?_
  · rintro i X W W' ⟨hj, x1, x2, hl, hd⟩ hk
    have l1 := (Array.getElem?_eq_some_iff.1 hl).1
    have l2 := (Array.getElem?_eq_some_iff.1 hd).1
    exact ⟨hgr i X W W' hj hk, fun h => by rcases h with h | h; exact x1 h; omega, fun h => by rcases h with h | h; exact x2 h; omega, (hk.block _ l1 x1).trans hl, (hk.block _ l2 x2).trans hd⟩
  · rintro X W W' ⟨c, hj, x1, x2, hl, hd⟩ hk
    have l1 := (Array.getElem?_eq_some_iff.1 hl).1
    have l2 := (Array.getElem?_eq_some_iff.1 hd).1
    exact ⟨c, hgx c X W W' hj hk, fun h => by rcases h with h | h; exact x1 h; omega, fun h => by rcases h with h | h; exact x2 h; omega, (hk.block _ l1 x1).trans hl, (hk.block _ l2 x2).trans hd⟩
  · rintro i X W hi ⟨hj, x1, x2, hl, hd⟩
    have hlt := (Array.getElem?_eq_some_iff.1 hl).1
    have hy := run_yield (P := P) (args := enc i) hl (by rw [hrec]; exact (hps i hi).symm ▸ rfl)
    rw [hrec] at hy
    refine ⟨fn, _, assign, body, hy, roundIn_of_wpIn hfn (wpIn_mono (hround i X W hi hlt hj) ?_)⟩
    intro e a1 W1 h9
    cases e with
    | normal =>
      obtain ⟨hk1, hb⟩ := h9
      have hltd := (Array.getElem?_eq_some_iff.1 hd).1
      have hl1 : W1.heap[w.heap.size + 1]? = some (.loop (rec .ready none)) := (hk1.block _ hlt (fun h => h)).trans hl
      have hlt1 := (Array.getElem?_eq_some_iff.1 hl1).1
      refine ⟨_, run_beginRound hl1 (by rw [hrec]), ?_⟩
      obtain ⟨busy, hbz⟩ : ∃ b : Loop, b = { rec .ready none with state := .busy } := ⟨_, rfl⟩
      rw [← hbz]
      have hl2 : (W1.putObj (w.heap.size + 1) (.loop busy)).heap[w.heap.size + 1]? = some (.loop busy) := World.putObj_heap_same hlt1
      have hd2 : (W1.putObj (w.heap.size + 1) (.loop busy)).heap[w.heap.size]? = some (.deferred (some [])) := (World.putObj_heap_other (by omega)).trans ((hk1.block _ hltd (fun h => h)).trans hd)
      have hxx : ∀ x, X x → W1.heap[x]? = W.heap[x]? := fun x hx => hk1.block x (hxl i X W hj x hx) (fun h => h)
      refine wpIn_mono (hb (.loop busy)) ?_
      have fin : ∀ (jump : Option Code) (W3 : World), (∀ x, X x ∨ x = w.heap.size ∨ x = w.heap.size + 1 → W3.heap[x]? = (W1.putObj (w.heap.size + 1) (.loop busy)).heap[x]?) →
          (Instr.endRound (w.heap.size + 1) jump).run P W3 = .ok (.bool jump.isNone) (W3.putObj (w.heap.size + 1) (.loop (rec (if jump.isNone then .ready else .done) jump))) ∧ W3.heap[w.heap.size + 1]? = some (.loop busy) ∧
          (W3.putObj (w.heap.size + 1) (.loop (rec (if jump.isNone then .ready else .done) jump))).heap[w.heap.size + 1]? = some (.loop (rec (if jump.isNone then .ready else .done) jump)) ∧
          (W3.putObj (w.heap.size + 1) (.loop (rec (if jump.isNone then .ready else .done) jump))).heap[w.heap.size]? = some (.deferred (some [])) ∧
          (∀ x, X x → (W3.putObj (w.heap.size + 1) (.loop (rec (if jump.isNone then .ready else .done) jump))).heap[x]? = W.heap[x]?) := fun jump W3 hk3 => by
        have hl3 := (hk3 _ (.inr (.inr rfl))).trans hl2
        have h9 := run_endRound (P := P) jump hl3
        rw [hbz, hrec] at h9
        rw [hrec]
        refine ⟨h9, hl3, World.putObj_heap_same (Array.getElem?_eq_some_iff.1 hl3).1, (World.putObj_heap_other (by omega)).trans ((hk3 _ (.inr (.inl rfl))).trans hd2), fun x hx => ?_⟩
        have hne : x ≠ w.heap.size + 1 := fun e => x1 (e ▸ hx)
        exact (World.putObj_heap_other hne).trans ((hk3 x (.inl hx)).trans ((World.putObj_heap_other hne).trans (hxx x hx)))
      rintro e a3 W3 ⟨hkx, hs, hp⟩
      have hs3 : W.heap.size ≤ W3.heap.size := by have h8 := hk1.size; have h7 : W1.heap.size ≤ W3.heap.size := by simpa using hs
                                                  omega
      cases e with
      | normal =>
        obtain ⟨hr, hl3, hl4, hd4, hx4⟩ := fin none W3 hkx
        exact ⟨_, _, hr, true, rfl, hx4, by simpa using hs3, fun _ => ⟨hob _ _ _ _ hp, x1, x2, hl4, hd4⟩, fun h => by cases h⟩
      | ret =>
        obtain ⟨hr, hl3, hl4, hd4, hx4⟩ := fin (some .ret) W3 hkx
        exact ⟨_, _, hr, false, rfl, hx4, by simpa using hs3, (fun h => by cases h), fun _ => ⟨.ret, hox _ _ _ _ hp, x1, x2, hl4, hd4⟩⟩
      | exit id =>
        obtain ⟨hr, hl3, hl4, hd4, hx4⟩ := fin (some (.exit id)) W3 hkx
        exact ⟨_, _, hr, false, rfl, hx4, by simpa using hs3, (fun h => by cases h), fun _ => ⟨(.exit id), hox _ _ _ _ hp, x1, x2, hl4, hd4⟩⟩
      | goto t =>
        obtain ⟨hr, hl3, hl4, hd4, hx4⟩ := fin (some (.goto t)) W3 hkx
        exact ⟨_, _, hr, false, rfl, hx4, by simpa using hs3, (fun h => by cases h), fun _ => ⟨(.goto t), hox _ _ _ _ hp, x1, x2, hl4, hd4⟩⟩
      | panic _ => exact hp.elim
      | outgrown => exact hp.elim
    | ret => exact h9.elim
    | exit id => exact h9.elim
    | goto t => exact h9.elim
    | panic _ => exact h9.elim
    | outgrown => exact h9.elim
  · rintro e W3 ⟨⟨v, rfl⟩, h⟩
    rcases h with ⟨X, hj, _, _, hl, hd⟩ | ⟨X, c, hj, _, _, hl, hd⟩
    · have h9 := run_endLoop (P := P) hl (by rw [hrec]; simp)
      refine ⟨_, _, h9, ?_⟩
      rw [hrec]
      exact hdone X _ (hob _ _ _ _ hj) ((World.putObj_heap_other (by omega)).trans hd)
    · have h9 := run_endLoop (P := P) hl (by rw [hrec]; simp)
      refine ⟨_, _, h9, ?_⟩
      rw [hrec]
      exact hstop c X _ (hox _ _ _ _ hj) ((World.putObj_heap_other (by omega)).trans hd)
theorem wpIn_iterA {F : Fence} {n : Nat} {P : Program} {g : Operand} {ps : Array Tmp} {assign body : Code} {Q : Exit → Act → World → Prop} {a : Act} {w : World} (hro : F.round = none) (h1 : 1 ≤ n)
    {gf : Nat} {lb : Array Value} (hg : a.eval g = .func (.func gf) #[] lb) (hFg : F.fn gf) (eg : ∀ args w, (callFunc gf args).run P w = .ok (.enter gf args) w)
    {N : Nat} {enc : Nat → Array Value} {Rd : World → Prop} (hit : IterOk F (n - 1) P gf lb N enc Rd) (hps : ∀ i, i < N → (enc i).size = ps.size)
    (B : Nat) (hB : w.heap.size = B) (J : Nat → (Nat → Prop) → World → Prop) (Jx : Code → (Nat → Prop) → World → Prop) (hrd : ∀ i X W, J i X W → Rd W)
    (hgr : ∀ i X W W', J i X W → Kept X W W' → J i (fun b => X b ∨ (W.heap.size ≤ b ∧ b < W'.heap.size)) W')
    (hgx : ∀ c X W W', Jx c X W → Kept X W W' → Jx c (fun b => X b ∨ (W.heap.size ≤ b ∧ b < W'.heap.size)) W')
    (hob : ∀ i X W o', J i X W → J i X (W.putObj (B + 1) o')) (hox : ∀ c X W o', Jx c X W → Jx c X (W.putObj (B + 1) o'))
    (h0 : ∀ o1 o2, J 0 (fun _ => False) ((w.alloc o1).alloc o2))
    (hxl : ∀ i X W, J i X W → ∀ x, X x → x < W.heap.size)
    (hround : ∀ (i : Nat) (X : Nat → Prop) (W : World), i < N → B + 1 < W.heap.size → J i X W → assign.wpIn (F.inRound (B + 1)) (n - 1 - 1) P (Exit.then (fun a1 W1 => Kept (fun _ => False) W W1 ∧ ∀ o', body.wpIn (F.inRound (B + 1)) (n - 1 - 1) P (iterPost B J Jx i X (W1.putObj (B + 1) o')) a1 (W1.putObj (B + 1) o')) (fun _ _ _ => False)) { tmps := (ps.zip (enc i)).foldl (fun t (p, v) => t.setIfInBounds p v) a.tmps, defers := [] } W)
    (hdone : ∀ (X : Nat → Prop) (W : World), J N X W → W.heap[B]? = some (.deferred (some [])) → Q .normal { a with defers := { target := .collected B, args := #[] } :: a.defers } W)
    (hstop : ∀ (c : Code) (X : Nat → Prop) (W : World), Jx c X W → W.heap[B]? = some (.deferred (some [])) → c.wpIn F n P Q { a with defers := { target := .collected B, args := #[] } :: a.defers } W) :
    (Code.rangeFunc g ps assign body).wpIn F n P Q a w :=
  wpIn_iterS hro h1 hg hFg eg (St := fun _ _ => True) (fun l I Z X0 W a1 a2 a3 a4 _ a5 => hit l I Z X0 W a1 a2 a3 a4 a5) (fun _ => False) hps B hB (fun _ h => h.elim) (fun _ _ => trivial) J Jx hrd hgr hgx hob hox h0 hxl hround hdone hstop
end Go.Proofs.YtjohljmpcblpjaaGreatDoor.Tr
