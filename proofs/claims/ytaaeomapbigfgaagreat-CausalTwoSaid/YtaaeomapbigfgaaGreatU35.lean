/- A Queue and the document's, side by side. hearsaylaw13.alike of two that hold the same. hearsaylaw13.same of two operations that say the same; big. hearsaylaw13.lent, back. -/
import Derived.Test.YtaaeomapbigfgaaGreatU15
import Derived.Test.YtaaeomapbigfgaaGreatU16
import Derived.Test.YtaaeomapbigfgaaGreatU18
import Derived.Test.YtaaeomapbigfgaaGreatU19
import Derived.Test.YtaaeomapbigfgaaGreatU34
import Derived.Test.YtaaeomapbigfgaaGreatU32
import Derived.Test.YtaaeomapbigfgaaGreatU17
import Derived.Test.YtaaeomapbigfgaaGreatU6
import Derived.Test.YtaaeomapbigfgaaGreatU13
import Derived.BigQuiet
import Derived.Test.YtaaeomapbigfgaaGreatU12
namespace Go.Proofs.YtaaeomapbigfgaaGreat
open Go.RowKit Go.Proofs.YtaaeomapbigfgaaGreat.St
/-- an operation whose lists lie ahead of w0 -/
def InOp (w0 : World) (e : Ent) : Prop := e.At w0 ∧ e.v.dot.Ok ∧ e.D.length ≤ 1000000 ∧ e.G.length ≤ 1000000
/-- the document's Queue with all its blocks in N, behind w0 -/
structure RBox (w0 w : World) (r : Nat) (hold : Int) (t : QS) (N : Nat → Prop) (vv wv ov : Value) : Prop where
  at_ : RAt (InOp w0) w r hold t N vv wv ov
  own : N r
  vecN : ∀ b, vv.ownBlock = some b → N b
  fresh : ∀ b, N b → w0.heap.size ≤ b ∧ b < w.heap.size
  kept : Kept (fun b => w0.heap.size ≤ b) w0 w
section
variable {w0 w w' : World} {r g : Nat} {hold : Int} {t s : QS} {N M F : Nat → Prop} {vv wv ov : Value}
theorem RBox.low (h : RBox w0 w r hold t N vv wv ov) : Low w0 (InOp w0) w r N := ⟨fun _ he => ⟨he.1, he.2.1, he.2.2.1⟩, h.kept, (h.fresh r h.own).1, h.fresh⟩
theorem RBox.keep {S : Nat → Prop} (h : RBox w0 w r hold t N vv wv ov) (hk : Kept S w w') (hS : ∀ b, N b → ¬ S b) (h0 : ∀ b, S b → w0.heap.size ≤ b) : RBox w0 w' r hold t N vv wv ov :=
  ⟨⟨hk.blk (hS r h.own) h.at_.head, owns_keep h.at_.vec hk (fun b hb => hS b (h.vecN b hb)), h.at_.vlen, owns_keep h.at_.wait hk (fun b hb => hS b (h.at_.wF b hb)), h.at_.wlen, h.at_.out.keep hk (fun b hb _ => hS b (h.at_.oF b hb)), h.at_.olen, h.at_.wF, h.at_.oF, h.at_.apart, fun b hb => Nat.lt_of_lt_of_le (h.at_.oB b hb) hk.size, h.at_.ents⟩,
    h.own, h.vecN, fun b hb => ⟨(h.fresh b hb).1, Nat.lt_of_lt_of_le (h.fresh b hb).2 hk.size⟩, h.kept.trans hk (fun b hb e => by have := h0 b e; omega)⟩
theorem RAt.snug {P : Ent → Prop} (h : RAt P w r hold t N vv wv ov) : RAt P w r hold t (fun b => N b ∧ b < w.heap.size) vv wv ov :=
  { h with wF := fun b hb => ⟨h.wF b hb, by obtain ⟨cs, hc⟩ := h.wOp b hb; exact hc.lt⟩, oF := fun b hb => ⟨h.oF b hb, h.oB b hb⟩ }
theorem RBox.offer (h : RBox w0 w r hold t N vv wv ov) {x : OpV} {D : List Dot} {G : List Run} {c : Int} (hP : c = 0 → InOp w0 ⟨x, D, G⟩) (hWl : t.W.length ≤ 10000) (hOl : t.O.length ≤ 100000) (hnd : (t.W.map (·.v.dot)).Nodup) (hh : hold ≤ 256)
    (hchk : ∀ w', Kept (fun _ => False) w w' → Calls Tryz.prog 53 #[.agg (opA x)] w' fun r w'' => r = .returned (.int .i64 c) ∧ Kept (fun _ => False) w' w'') :
    Calls Tryz.prog 33 #[.pointer (some ⟨r, 0, none⟩), .agg (opA x)] w fun e w' => ∃ (a : Int) (t' : QS) (vv' wv' ov' : Value), e = .returned (.tuple #[.int .i64 a, .int .i64 c]) ∧ OfferIs hold t c ⟨x, D, G⟩ a t' ∧ RBox w0 w' r hold t' (grown N w w') vv' wv' ov' ∧ Kept N w w' := by
  refine (roffer_any h.at_ h.low hP hWl hOl hnd hh hchk).mono ?_
  rintro e w' ⟨a, t', vv', wv', ov', rfl, hoff, hq, hk, hv⟩
  have kN : Kept N w w' := hk.mono (fun b _ hb => by
    rcases hb with rfl | ⟨hb, _⟩
    · exact h.own
    · exact hb)
  have hz := h.kept.size
  refine ⟨a, t', vv', wv', ov', rfl, hoff, ⟨hq.snug.wider (fun b hb => hb.1.imp id (fun h1 => ⟨h1, hb.2⟩)), .inl h.own, fun b hb => ?_, fun b hb => ?_, h.kept.trans kN (fun b hb e => by have := (h.fresh b e).1; omega)⟩, kN⟩
  · rcases hv with rfl | hv
    · exact .inl (h.vecN b hb)
    · exact .inr ⟨hv b hb, by obtain ⟨cs, hc⟩ := owns_spared hq.vec b hb; exact hc.lt⟩
  · rcases hb with hb | hb
    · exact ⟨(h.fresh b hb).1, Nat.lt_of_lt_of_le (h.fresh b hb).2 kN.size⟩
    · exact ⟨by omega, hb.2⟩
theorem RBox.take (h : RBox w0 w r hold t N vv wv ov) :
    Calls Tryz.prog 36 #[.pointer (some ⟨r, 0, none⟩)] w fun e w' => (t.O = [] ∧ e = .returned (.tuple #[.agg zeroOp, .bool false]) ∧ RBox w0 w' r hold t N vv wv ov ∧ Kept (fun _ => False) w w') ∨
      ∃ f O' ov', t.O = f :: O' ∧ e = .returned (.tuple #[.agg (opA f.v), .bool true]) ∧ RBox w0 w' r hold ⟨t.V, t.W, O'⟩ N vv wv ov' ∧ InOp w0 f ∧ Kept (fun b => b = r) w w' := by
  refine (rtake_any h.at_.head h.at_.out (by have := h.at_.olen; omega)).mono ?_
  rintro e w' (⟨h1, h2, hk⟩ | ⟨f, O', ov', h1, h2, hq, hO, hb, hk⟩)
  · exact .inl ⟨h1, h2, h.keep hk (fun _ _ h => h) (fun _ h => h.elim), hk⟩
  · have hf := h.at_.ents f (by rw [h1]; simp)
    have hne : ∀ b cs, Blk w b 42 cs → b ≠ r := fun b cs hc e => h.at_.head.ne_ hc (of_decide_eq_true (by kernel_rfl)) e.symm
    have hol : O'.length + 1 = t.O.length := by rw [h1]; rfl
    refine .inr ⟨f, O', ov', h1, h2, ⟨⟨hq, owns_keep h.at_.vec hk (owns_far h.at_.vec h.at_.head (of_decide_eq_true (by kernel_rfl))), h.at_.vlen, owns_keep h.at_.wait hk (owns_far h.at_.wait h.at_.head (of_decide_eq_true (by kernel_rfl))), h.at_.wlen, hO, by have := h.at_.olen; show O'.length ≤ _; omega, h.at_.wF, fun b h2 => h.at_.oF b (hb ▸ h2), fun b h2 => hb ▸ h.at_.apart b h2, fun b h2 => Nat.lt_of_lt_of_le (h.at_.oB b (hb ▸ h2)) hk.size, fun y hy => ?_⟩, h.own, h.vecN, fun b hb => ⟨(h.fresh b hb).1, Nat.lt_of_lt_of_le (h.fresh b hb).2 hk.size⟩, h.kept.trans hk (fun b hb e => by have := (h.fresh r h.own).1; have e : b = r := e; omega)⟩, hf, hk⟩
    have hy : y ∈ t.W ++ O' := hy
    refine h.at_.ents y ?_
    rcases List.mem_append.1 hy with hy | hy
    · exact List.mem_append.2 (.inl hy)
    · exact List.mem_append.2 (.inr (by rw [h1]; exact List.mem_cons_of_mem _ hy))
/-- a Queue with what it holds, and the document's; all that is theirs lies in F, behind w0 -/
def Duo (w0 w : World) (g r : Nat) (hold : Int) (C K : CQ) (F : Nat → Prop) : Prop :=
  ∃ (s t : QS) (M N : Nat → Prop) (v1 x1 o1 v2 x2 o2 : Value), QBox w g hold s M v1 x1 o1 ∧ RBox w0 w r hold t N v2 x2 o2 ∧ s.cont = C ∧ t.cont = K ∧ (∀ b, N b → ¬ M b) ∧ (∀ b, M b → F b) ∧ (∀ b, N b → F b) ∧ ∀ b, F b → w0.heap.size ≤ b ∧ b < w.heap.size
variable {C K : CQ}
theorem cont_W (s : QS) : s.cont.W.length = s.W.length := List.length_map _
theorem cont_O (s : QS) : s.cont.O.length = s.O.length := List.length_map _
theorem Duo.keep {S : Nat → Prop} (h : Duo w0 w g r hold C K F) (hk : Kept S w w') (hS : ∀ b, F b → ¬ S b) (h0 : ∀ b, S b → w0.heap.size ≤ b) : Duo w0 w' g r hold C K F := by
  obtain ⟨s, t, M, N, v1, x1, o1, v2, x2, o2, h1, h2, h3, h4, h5, h6, h7, h8⟩ := h
  exact ⟨s, t, M, N, v1, x1, o1, v2, x2, o2, h1.keep hk (fun b hb => hS b (h6 b hb)), h2.keep hk (fun b hb => hS b (h7 b hb)) h0, h3, h4, h5, h6, h7, fun b hb => ⟨(h8 b hb).1, Nat.lt_of_lt_of_le (h8 b hb).2 hk.size⟩⟩
theorem Duo.kept (h : Duo w0 w g r hold C K F) (hk : Kept (fun _ => False) w w') : Duo w0 w' g r hold C K F := h.keep hk (fun _ _ h => h) (fun _ h => h.elim)
theorem Duo.fresh (h : Duo w0 w g r hold C K F) : ∀ b, F b → w0.heap.size ≤ b ∧ b < w.heap.size := by
  obtain ⟨s, t, M, N, v1, x1, o1, v2, x2, o2, h1, h2, h3, h4, h5, h6, h7, h8⟩ := h
  exact h8
theorem Duo.past (h : Duo w0 w g r hold C K F) : Kept (fun b => w0.heap.size ≤ b) w0 w := by
  obtain ⟨s, t, M, N, v1, x1, o1, v2, x2, o2, h1, h2, h3, h4, h5, h6, h7, h8⟩ := h
  exact h2.kept
theorem grown_wide (h : ∀ b, M b → F b) : ∀ b, grown M w w' b → grown F w w' b := fun b hb => hb.imp (h b) id
theorem Duo.offer (h : Duo w0 w g r hold C K F) {x : OpV} {D : List Dot} {G : List Run} {c : Int} (hD : SlAt dotE w x.deps.v D) (hG : SlAt runE w x.gone.v G) (hDl : D.length ≤ 1000000) (hGl : G.length ≤ 1000000) (hWl : C.W.length ≤ 10000) (hOl : C.O.length ≤ 100000)
    (hchk : ∀ w', Kept (fun _ => False) w w' → Calls Tryz.prog 37 #[.agg (opA x)] w' fun r w'' => r = .returned (.int .i64 c) ∧ Kept (fun _ => False) w' w'') (hok : c = 0 → x.dot.Ok) :
    Calls Tryz.prog 13 #[.pointer (some ⟨g, 0, none⟩), .agg (opA x)] w fun e w' => e = .returned (.tuple #[.int .i64 (coffer hold c C ({ x with deps := ⟨none, 0, 0⟩, gone := ⟨none, 0, 0⟩ }, D, G)).1, .int .i64 c]) ∧ Duo w0 w' g r hold (coffer hold c C ({ x with deps := ⟨none, 0, 0⟩, gone := ⟨none, 0, 0⟩ }, D, G)).2 K (grown F w w') ∧ Kept F w w' := by
  obtain ⟨s, t, M, N, v1, x1, o1, v2, x2, o2, h1, h2, rfl, h4, h5, h6, h7, h8⟩ := h
  refine (h1.offer hD hG hDl hGl (by rw [← cont_W]; exact hWl) (by rw [← cont_O]; exact hOl) hchk hok).mono ?_
  rintro e w' ⟨a, d, z, s', vv', wv', ov', rfl, hoff, hq, hk⟩
  have hc := hoff.cont
  have e1 : cont ⟨{ x with deps := d, gone := z }, D, G⟩ = ({ x with deps := ⟨none, 0, 0⟩, gone := ⟨none, 0, 0⟩ }, D, G) := rfl
  rw [e1] at hc
  refine ⟨by rw [← hc], ⟨s', t, grown M w w', N, vv', wv', ov', v2, x2, o2, hq, h2.keep hk h5 (fun b hb => (h8 b (h6 b hb)).1), by rw [← hc], h4, fun b hb hb2 => ?_, grown_wide h6, fun b hb => .inl (h7 b hb), fun b hb => ?_⟩, hk.mono (fun b _ hb => h6 b hb)⟩
  · rcases hb2 with hb2 | hb2
    · exact h5 b hb hb2
    · have := (h8 b (h7 b hb)).2; omega
  · rcases hb with hb | hb
    · exact ⟨(h8 b hb).1, Nat.lt_of_lt_of_le (h8 b hb).2 hk.size⟩
    · have := h2.kept.size; exact ⟨by omega, hb.2⟩
theorem map_dot (W : List Ent) : (W.map cont).map (·.1.dot) = W.map (·.v.dot) := by rw [List.map_map]; rfl
theorem Duo.roffer (h : Duo w0 w g r hold C K F) {x : OpV} {D : List Dot} {G : List Run} {c : Int} (hP : c = 0 → InOp w0 ⟨x, D, G⟩) (hWl : K.W.length ≤ 10000) (hOl : K.O.length ≤ 100000) (hnd : (K.W.map (·.1.dot)).Nodup) (hh : hold ≤ 256)
    (hchk : ∀ w', Kept (fun _ => False) w w' → Calls Tryz.prog 53 #[.agg (opA x)] w' fun r w'' => r = .returned (.int .i64 c) ∧ Kept (fun _ => False) w' w'') :
    Calls Tryz.prog 33 #[.pointer (some ⟨r, 0, none⟩), .agg (opA x)] w fun e w' => e = .returned (.tuple #[.int .i64 (coffer hold c K ({ x with deps := ⟨none, 0, 0⟩, gone := ⟨none, 0, 0⟩ }, D, G)).1, .int .i64 c]) ∧ Duo w0 w' g r hold C (coffer hold c K ({ x with deps := ⟨none, 0, 0⟩, gone := ⟨none, 0, 0⟩ }, D, G)).2 (grown F w w') ∧ Kept F w w' := by
  obtain ⟨s, t, M, N, v1, x1, o1, v2, x2, o2, h1, h2, h3, rfl, h5, h6, h7, h8⟩ := h
  refine (h2.offer hP (by rw [← cont_W]; exact hWl) (by rw [← cont_O]; exact hOl) (by rw [← map_dot]; exact hnd) hh hchk).mono ?_
  rintro e w' ⟨a, t', vv', wv', ov', rfl, hoff, hq, hk⟩
  have hc := hoff.cont
  have e1 : cont ⟨x, D, G⟩ = ({ x with deps := ⟨none, 0, 0⟩, gone := ⟨none, 0, 0⟩ }, D, G) := rfl
  rw [e1] at hc
  refine ⟨by rw [← hc], ⟨s, t', M, grown N w w', v1, x1, o1, vv', wv', ov', h1.keep hk (fun b hb hb2 => h5 b hb2 hb), hq, h3, by rw [← hc], fun b hb hb2 => ?_, fun b hb => .inl (h6 b hb), grown_wide h7, fun b hb => ?_⟩, hk.mono (fun b _ hb => h7 b hb)⟩
  · rcases hb with hb | hb
    · exact h5 b hb hb2
    · have := (h8 b (h6 b hb2)).2; omega
  · rcases hb with hb | hb
    · exact ⟨(h8 b hb).1, Nat.lt_of_lt_of_le (h8 b hb).2 hk.size⟩
    · have := h2.kept.size; exact ⟨by omega, hb.2⟩
theorem Duo.take (h : Duo w0 w g r hold C K F) :
    Calls Tryz.prog 14 #[.pointer (some ⟨g, 0, none⟩)] w fun x w' => (C.O = [] ∧ x = .returned (.tuple #[.agg zeroOp, .bool false]) ∧ Duo w0 w' g r hold C K F ∧ Kept (fun _ => False) w w') ∨
      ∃ e O', C.O = cont e :: O' ∧ x = .returned (.tuple #[.agg (opA e.v), .bool true]) ∧ Duo w0 w' g r hold ⟨C.V, C.W, O'⟩ K (less F e) ∧ e.Own w' ∧ (∀ b, e.dB = some b → F b) ∧ (∀ b, e.gB = some b → F b) ∧ Kept F w w' := by
  obtain ⟨s, t, M, N, v1, x1, o1, v2, x2, o2, h1, h2, rfl, h4, h5, h6, h7, h8⟩ := h
  refine h1.take.mono ?_
  rintro x w' (⟨e1, e2, e3, e4⟩ | ⟨e, O', ov', e1, e2, e3, e4, e5, e6, e7⟩)
  · exact .inl ⟨by show s.O.map cont = []; rw [e1]; rfl, e2, ⟨s, t, M, N, v1, x1, o1, v2, x2, o2, e3, h2.keep e4 (fun _ _ h => h) (fun _ h => h.elim), rfl, h4, h5, h6, h7, fun b hb => ⟨(h8 b hb).1, Nat.lt_of_lt_of_le (h8 b hb).2 e4.size⟩⟩, e4⟩
  · have kF : Kept F w w' := e7.mono (fun b _ hb => by have hb : b = g := hb; rw [hb]; exact h6 _ h1.own)
    refine .inr ⟨e, O'.map cont, by show s.O.map cont = _; rw [e1]; rfl, e2, ⟨⟨s.V, s.W, O'⟩, t, less M e, N, v1, x1, ov', v2, x2, o2, e3, h2.keep e7 (fun b hb e => by have e : b = g := e; rw [e] at hb; exact h5 _ hb h1.own) (fun b hb => by have hb : b = g := hb; rw [hb]; exact (h8 _ (h6 _ h1.own)).1), rfl, h4, fun b hb hb2 => h5 b hb hb2.1, fun b hb => ⟨h6 b hb.1, hb.2⟩, fun b hb => ⟨h7 b hb, fun h => h5 b hb (e5 b h), fun h => h5 b hb (e6 b h)⟩, fun b hb => ⟨(h8 b hb.1).1, Nat.lt_of_lt_of_le (h8 b hb.1).2 e7.size⟩⟩, e4, fun b hb => h6 b (e5 b hb), fun b hb => h6 b (e6 b hb), kF⟩
theorem Duo.rtake (h : Duo w0 w g r hold C K F) :
    Calls Tryz.prog 36 #[.pointer (some ⟨r, 0, none⟩)] w fun x w' => (K.O = [] ∧ x = .returned (.tuple #[.agg zeroOp, .bool false]) ∧ Duo w0 w' g r hold C K F ∧ Kept (fun _ => False) w w') ∨
      ∃ f O', K.O = cont f :: O' ∧ x = .returned (.tuple #[.agg (opA f.v), .bool true]) ∧ Duo w0 w' g r hold C ⟨K.V, K.W, O'⟩ F ∧ InOp w0 f ∧ Kept (fun b => b = r) w w' ∧ F r := by
  obtain ⟨s, t, M, N, v1, x1, o1, v2, x2, o2, h1, h2, h3, rfl, h5, h6, h7, h8⟩ := h
  refine h2.take.mono ?_
  rintro x w' (⟨e1, e2, e3, e4⟩ | ⟨f, O', ov', e1, e2, e3, e4, e5⟩)
  · exact .inl ⟨by show t.O.map cont = []; rw [e1]; rfl, e2, ⟨s, t, M, N, v1, x1, o1, v2, x2, o2, h1.keep e4 (fun _ _ h => h), e3, h3, rfl, h5, h6, h7, fun b hb => ⟨(h8 b hb).1, Nat.lt_of_lt_of_le (h8 b hb).2 e4.size⟩⟩, e4⟩
  · exact .inr ⟨f, O'.map cont, by show t.O.map cont = _; rw [e1]; rfl, e2, ⟨s, ⟨t.V, t.W, O'⟩, M, N, v1, x1, o1, v2, x2, ov', h1.keep e5 (fun b hb e => by have e : b = r := e; rw [e] at hb; exact h5 _ h2.own hb), e3, h3, rfl, h5, h6, h7, fun b hb => ⟨(h8 b hb).1, Nat.lt_of_lt_of_le (h8 b hb).2 e5.size⟩⟩, e4, e5, h7 _ h2.own⟩
theorem Duo.waits (h : Duo w0 w g r hold C K F) :
    Calls Tryz.prog 16 #[.pointer (some ⟨g, 0, none⟩)] w fun x w' => ∃ v' L, x = .returned v' ∧ WaitsIs C L ∧ L.length ≤ 100000 ∧ w'.ownsRow w.heap.size 28 2 v' L.length (dotE.flat L) ∧ Kept (fun _ => False) w w' := by
  obtain ⟨s, t, M, N, v1, x1, o1, v2, x2, o2, h1, h2, rfl, h4, h5, h6, h7, h8⟩ := h
  refine h1.waits.mono ?_
  rintro x w' ⟨v', L, rfl, hp, hs, ho, hk⟩
  have e : s.cont.W.map (·.1.dot) = dotsOf s.W := map_dot s.W
  exact ⟨v', L, rfl, ⟨by rw [e]; exact hp, hs⟩, by rw [hp.length_eq]; have := h1.at_.wlen; simpa [dotsOf] using this, ho, hk⟩
theorem Duo.rwaits (h : Duo w0 w g r hold C K F) :
    Calls Tryz.prog 60 #[.pointer (some ⟨r, 0, none⟩)] w fun x w' => ∃ v' L, x = .returned v' ∧ WaitsIs K L ∧ L.length ≤ 100000 ∧ w'.ownsRow w.heap.size 28 2 v' L.length (dotE.flat L) ∧ Kept (fun _ => False) w w' := by
  obtain ⟨s, t, M, N, v1, x1, o1, v2, x2, o2, h1, h2, h3, rfl, h5, h6, h7, h8⟩ := h
  refine (rwaits_any h2.at_.head h2.at_.wait (by have := h2.at_.wlen; omega)).mono ?_
  rintro x w' ⟨v', L, rfl, hp, hs, ho, hk⟩
  have e : t.cont.W.map (·.1.dot) = dotsOf t.W := map_dot t.W
  exact ⟨v', L, rfl, ⟨by rw [e]; exact hp, hs⟩, by rw [hp.length_eq]; have := h2.at_.wlen; simpa [dotsOf] using this, ho, hk⟩
theorem Duo.free (h : Duo w0 w g r hold C K F) (hh : -1000000 ≤ hold) (hh2 : hold ≤ 1000000) :
    Calls Tryz.prog 17 #[.pointer (some ⟨g, 0, none⟩)] w fun x w' => x = .returned (.int .i64 (hold - (C.W.length : Nat))) ∧ Kept (fun _ => False) w w' := by
  obtain ⟨s, t, M, N, v1, x1, o1, v2, x2, o2, h1, h2, rfl, h4, h5, h6, h7, h8⟩ := h
  obtain ⟨a, c, rfl⟩ := owns_sl h1.at_.wait
  have e1 : s.cont.W.length = s.W.length := List.length_map _
  refine (free_any h1.at_.head hh hh2 (by have := h1.at_.wlen; omega)).mono ?_
  rintro x w' ⟨rfl, hg⟩
  exact ⟨by rw [e1], hg.kept⟩
theorem Duo.rfree (h : Duo w0 w g r hold C K F) (hh : -1000000 ≤ hold) (hh2 : hold ≤ 1000000) :
    Calls Tryz.prog 61 #[.pointer (some ⟨r, 0, none⟩)] w fun x w' => x = .returned (.int .i64 (hold - (K.W.length : Nat))) ∧ Kept (fun _ => False) w w' := by
  obtain ⟨s, t, M, N, v1, x1, o1, v2, x2, o2, h1, h2, h3, rfl, h5, h6, h7, h8⟩ := h
  obtain ⟨a, c, rfl⟩ := owns_sl h2.at_.wait
  have e1 : t.cont.W.length = t.W.length := List.length_map _
  refine (rfree_any h2.at_.head hh hh2 (by have := h2.at_.wlen; omega)).mono ?_
  rintro x w' ⟨rfl, hg⟩
  exact ⟨by rw [e1], hg.kept⟩
theorem Duo.vector (h : Duo w0 w g r hold C K F) :
    Calls Tryz.prog 18 #[.pointer (some ⟨g, 0, none⟩)] w fun x w' => ∃ v', x = .returned v' ∧ C.V.length ≤ 1000 ∧ w'.ownsRow w.heap.size 28 2 v' C.V.length (dotE.flat C.V) ∧ Kept (fun _ => False) w w' := by
  obtain ⟨s, t, M, N, v1, x1, o1, v2, x2, o2, h1, h2, rfl, h4, h5, h6, h7, h8⟩ := h
  refine h1.vector.mono ?_
  rintro x w' ⟨v', rfl, ho, hk⟩
  exact ⟨v', rfl, h1.at_.vlen, ho, hk⟩
theorem Duo.rvector (h : Duo w0 w g r hold C K F) (hc : chkV 0 K.V = 0) :
    Calls Tryz.prog 62 #[.pointer (some ⟨r, 0, none⟩)] w fun x w' => ∃ v', x = .returned v' ∧ w'.ownsRow w.heap.size 28 2 v' K.V.length (dotE.flat K.V) ∧ Kept (fun _ => False) w w' := by
  obtain ⟨s, t, M, N, v1, x1, o1, v2, x2, o2, h1, h2, h3, rfl, h5, h6, h7, h8⟩ := h
  exact rvector_any h2.at_.head (owns_slAt (E := dotE) h2.at_.vec) (by have := h2.at_.vlen; show t.V.length ≤ _; omega) hc
end
end Go.Proofs.YtaaeomapbigfgaaGreat
namespace Go.Proofs.YtaaeomapbigfgaaGreat
open Go.RowKit Go.Proofs.YtaaeomapbigfgaaGreat.St
theorem waits_one {C : CQ} {L M : List Dot} (h : WaitsIs C L) (h' : WaitsIs C M) : L = M := by
  exact List.Perm.eq_of_pairwise (fun a b _ _ (h1 : ¬ b.lt a) (h2 : ¬ a.lt b) => by
    rw [dlt] at h1 h2
    rw [Dot.ext_iff]
    omega) (show L.Pairwise (fun a b => ¬ b.lt a) from h.2) (show M.Pairwise (fun a b => ¬ b.lt a) from h'.2) (h.1.trans h'.1.symm)
/-- what holds of what two Queues hold -/
structure COk (hold : Int) (C : CQ) : Prop where
  ord : OrdQ (fun _ => True) hold C.V C.W
  chk : chkV 0 C.V = 0
set_option maxRecDepth 100000 in
set_option maxHeartbeats 8000000 in
theorem alike_any {w0 w : World} {g r : Nat} {hold : Int} {C : CQ} {F : Nat → Prop} (h : Duo w0 w g r hold C C F) (hc : COk hold C) (hh0 : 0 ≤ hold) (hh : hold ≤ 256) :
    Calls Tryz.prog 35 #[.pointer (some ⟨g, 0, none⟩), .pointer (some ⟨r, 0, none⟩)] w fun e w' => e = .returned (.bool true) ∧ Kept (fun _ => False) w w' := by
  have HW := Lib.hid h.waits
  have DU := Lib.hid h
  have CC := Lib.hid hc
  clear h hc
  go_enter Tryz.func35, Tryz.ntmps35
  go_wp2_with (first
    | (go_at_call 16; refine HW.out.mono ?_; rintro x w1 ⟨v1, L1, rfl, hw1, hl1, ho1, hk1⟩; have K1 := Lib.hid hk1; have W1 := Lib.hid hw1; have O1 := Lib.hid ho1; have HW2 := Lib.hid (DU.out.kept hk1).rwaits; clear ho1 hk1 hw1)
    | (go_at_call 60; refine HW2.out.mono ?_; rintro x w2 ⟨v2, L2, rfl, hw2, hl2, ho2, hk2⟩; obtain rfl := waits_one W1.out hw2; have K2 := Lib.hid (K1.out.trans hk2 (fun _ _ h => h)); have HDT := Lib.hid ((dots_any (owns_slAt (E := dotE) (owns_keep O1.out hk2 (fun _ _ h => h))) (owns_slAt (E := dotE) ho2) (by omega)).mono (R' := fun e w' => e = .returned (.bool true) ∧ ∃ q, w' = w2.drewN q) (fun e w' h => by rw [decide_eq_true rfl] at h; exact h)); clear ho2 hk2 hw2)
    | (go_at_call 27; refine HDT.out.mono ?_; rintro x w3 ⟨rfl, q3, rfl⟩; have K3 := Lib.hid (K2.out.drewN q3); have HF1 := Lib.hid ((DU.out.kept K3.out).free (by omega) (by omega)))
    | (go_at_call 17; refine HF1.out.mono ?_; rintro x w4 ⟨rfl, hk4⟩; have K4 := Lib.hid (K3.out.trans hk4 (fun _ _ h => h)); have HF2 := Lib.hid ((DU.out.kept K4.out).rfree (by omega) (by omega)); clear hk4)
    | (go_at_call 61; refine HF2.out.mono ?_; rintro x w5 ⟨rfl, hk5⟩; have K5 := Lib.hid (K4.out.trans hk5 (fun _ _ h => h)); have HV1 := Lib.hid (DU.out.kept K5.out).vector; clear hk5)
    | (go_at_call 18; refine HV1.out.mono ?_; rintro x w6 ⟨v6, rfl, hl6, ho6, hk6⟩; have K6 := Lib.hid (K5.out.trans hk6 (fun _ _ h => h)); have O6 := Lib.hid ho6; have HV2 := Lib.hid ((DU.out.kept K6.out).rvector CC.out.chk); clear hk6 ho6)
    | (go_at_call 62; refine HV2.out.mono ?_; rintro x w7 ⟨v7, rfl, ho7, hk7⟩; have K7 := Lib.hid (K6.out.trans hk7 (fun _ _ h => h)); have HSM := Lib.hid ((same_any (owns_slAt (E := dotE) (owns_keep O6.out hk7 (fun _ _ h => h))) (owns_slAt (E := dotE) ho7) (by omega)).mono (R' := fun e w' => e = .returned (.bool true) ∧ ∃ q, w' = w7.drewN q) (fun e w' h => by rw [decide_eq_true rfl] at h; exact h)); clear ho7 hk7)
    | (go_at_call 11; refine HSM.out.mono ?_; rintro x w8 ⟨rfl, q8, rfl⟩; have K8 := Lib.hid (K7.out.drewN q8)))
  go_ret
  exact ⟨rfl, K8.out⟩
end Go.Proofs.YtaaeomapbigfgaaGreat
namespace Go.Proofs.YtaaeomapbigfgaaGreat
open Go.RowKit Go.Proofs.YtaaeomapbigfgaaGreat.St
set_option maxRecDepth 100000 in
set_option maxHeartbeats 4000000 in
theorem same_op {w : World} {x : OpV} {d z d' z' : Sl} {D : List Dot} {G : List Run} (hD : SlAt dotE w d.v D) (hD' : SlAt dotE w d'.v D) (hG : SlAt runE w z.v G) (hG' : SlAt runE w z'.v G) (hDl : D.length ≤ 1000000000) (hGl : G.length ≤ 1000000000) :
    Calls Tryz.prog 15 #[.agg (opA { x with deps := d, gone := z }), .agg (opA { x with deps := d', gone := z' })] w fun r w' => r = .returned (.bool true) ∧ Kept (fun _ => False) w w' := by
  have hA := (Blk.new w 42 (opA { x with deps := d, gone := z })).alloc (.cells (opA { x with deps := d', gone := z' }) 42)
  have hB := Blk.new (w.alloc (.cells (opA { x with deps := d, gone := z }) 42)) 42 (opA { x with deps := d', gone := z' })
  have k0 : Kept (fun _ => False) w ((w.alloc (.cells (opA { x with deps := d, gone := z }) 42)).alloc (.cells (opA { x with deps := d', gone := z' }) 42)) := ((Kept.refl _ _).alloc _).alloc _
  rw [World.size_alloc] at hB
  obtain ⟨W, hW⟩ : ∃ W, ((w.alloc (.cells (opA { x with deps := d, gone := z }) 42)).alloc (.cells (opA { x with deps := d', gone := z' }) 42)) = W := ⟨_, rfl⟩
  rw [hW] at hA hB k0
  have HW := Lib.hid hW
  have hn1 : z.n = G.length := by obtain ⟨_, _, he, _⟩ := hG.sl; injection he
  have hn2 : z'.n = G.length := by obtain ⟨_, _, he, _⟩ := hG'.sl; injection he
  obtain ⟨za, zn, zc⟩ := z
  obtain ⟨ya, yn, yc⟩ := z'
  obtain rfl : zn = G.length := hn1
  obtain rfl : yn = G.length := hn2
  have a0 : W.cell? ⟨w.heap.size, 0, none⟩ = some (.int .i64 x.dot.site) := hA.cell' (i := 0) rfl
  have a1 : W.cell? ⟨w.heap.size, 1, none⟩ = some (.int .i64 x.dot.seq) := hA.cell' (i := 1) rfl
  have a2 : W.cell? ⟨w.heap.size, 2, none⟩ = some (.slice d.a d.n d.c) := hA.cell' (i := 2) rfl
  have a3 : W.cell? ⟨w.heap.size, 3, none⟩ = some (.int .i64 x.kind) := hA.cell' (i := 3) rfl
  have a4 : W.cell? ⟨w.heap.size, 4, none⟩ = some (.int .i64 x.id.t) := hA.cell' (i := 4) rfl
  have a5 : W.cell? ⟨w.heap.size, 5, none⟩ = some (.int .i64 x.id.s) := hA.cell' (i := 5) rfl
  have a6 : W.cell? ⟨w.heap.size, 6, none⟩ = some (.int .i64 x.ref.t) := hA.cell' (i := 6) rfl
  have a7 : W.cell? ⟨w.heap.size, 7, none⟩ = some (.int .i64 x.ref.s) := hA.cell' (i := 7) rfl
  have a8 : W.cell? ⟨w.heap.size, 8, none⟩ = some (.string x.text) := hA.cell' (i := 8) rfl
  have a9 : W.cell? ⟨w.heap.size, 9, none⟩ = some (.slice za G.length zc) := hA.cell' (i := 9) rfl
  have a10 : W.cell? ⟨w.heap.size, 10, none⟩ = some (.int .i64 x.site) := hA.cell' (i := 10) rfl
  have b0 : W.cell? ⟨w.heap.size + 1, 0, none⟩ = some (.int .i64 x.dot.site) := hB.cell' (i := 0) rfl
  have b1 : W.cell? ⟨w.heap.size + 1, 1, none⟩ = some (.int .i64 x.dot.seq) := hB.cell' (i := 1) rfl
  have b2 : W.cell? ⟨w.heap.size + 1, 2, none⟩ = some (.slice d'.a d'.n d'.c) := hB.cell' (i := 2) rfl
  have b3 : W.cell? ⟨w.heap.size + 1, 3, none⟩ = some (.int .i64 x.kind) := hB.cell' (i := 3) rfl
  have b4 : W.cell? ⟨w.heap.size + 1, 4, none⟩ = some (.int .i64 x.id.t) := hB.cell' (i := 4) rfl
  have b5 : W.cell? ⟨w.heap.size + 1, 5, none⟩ = some (.int .i64 x.id.s) := hB.cell' (i := 5) rfl
  have b6 : W.cell? ⟨w.heap.size + 1, 6, none⟩ = some (.int .i64 x.ref.t) := hB.cell' (i := 6) rfl
  have b7 : W.cell? ⟨w.heap.size + 1, 7, none⟩ = some (.int .i64 x.ref.s) := hB.cell' (i := 7) rfl
  have b8 : W.cell? ⟨w.heap.size + 1, 8, none⟩ = some (.string x.text) := hB.cell' (i := 8) rfl
  have b9 : W.cell? ⟨w.heap.size + 1, 9, none⟩ = some (.slice ya G.length yc) := hB.cell' (i := 9) rfl
  have b10 : W.cell? ⟨w.heap.size + 1, 10, none⟩ = some (.int .i64 x.site) := hB.cell' (i := 10) rfl
  have HS := Lib.hid (same_any (hD.kept k0) (hD'.kept k0) hDl)
  have HG1 := Lib.hid (hG.kept k0)
  have HG2 := Lib.hid (hG'.kept k0)
  have K0 := Lib.hid k0
  clear hA hB k0 hW hD hD' hG hG'
  go_enter Tryz.func15, Tryz.ntmps15
  go_upto_region 1 with fail
  rw [HW.out]
  clear HW
  go_wp2_with (go_at_call 11; refine HS.out.mono ?_; rintro r w2 ⟨rfl, q0, rfl⟩)
  clear HS a0 a1 a2 a3 a4 a5 a6 a7 a8 a10 b0 b1 b2 b3 b4 b5 b6 b7 b8 b10
  go_loopw [5] (fun i wr => ∃ n q : Nat, i = .int .i64 n ∧ n ≤ G.length ∧ wr = W.drewN q) (fun i _ => G.length - (intOf i).toNat)
  case atStart => exact ⟨0, q0, rfl, Nat.zero_le _, rfl⟩
  case round =>
    obtain ⟨n, q, rfl, hn, rfl⟩ := hrel
    by_cases hlt : n < G.length
    case neg =>
      have hnl : ¬ (n : Int) < G.length := by omega
      go_wp2_with fail
      go_ret
      exact ⟨rfl, K0.out.drewN _⟩
    case pos =>
      obtain ⟨x, hx⟩ := get_of_lt hlt
      obtain ⟨g, o, c', e1, _, h1⟩ := St.SlAt.run HG1.out (by omega)
      obtain ⟨g', o', c2, e2, _, h2⟩ := St.SlAt.run HG2.out (by omega)
      injection e1 with e1 _ e3
      injection e2 with e2 _ e4
      subst e1 e2 e3 e4
      obtain ⟨k1, k2, k3⟩ := h1 n x hx
      obtain ⟨k4, k5, k6⟩ := h2 n x hx
      have hn0 : (0 : Int) ≤ n := by omega
      have hnl : (n : Int) < G.length := by omega
      clear hx h1 h2
      go_wp2
      go_quiet (fail)
      go_wp2
      go_roundw
      case rel => exact ⟨n + 1, _, by go_num, by omega, rfl⟩
      case measure => simp [intOf]; omega
end Go.Proofs.YtaaeomapbigfgaaGreat
namespace Go.Proofs.YtaaeomapbigfgaaGreat
open Go.RowKit Go.Proofs.YtaaeomapbigfgaaGreat.St
theorem lit_run3 (w : World) (c : Int) : SlAt runE (w.alloc (.cells #[.int .i64 0, .int .i64 0, .int .i64 c] 77)) (.slice (some ⟨w.heap.size, 0, none⟩) 1 1) [(⟨⟨0, 0⟩, c⟩ : Run)] :=
  SlAt.lit (E := runE) [⟨⟨0, 0⟩, c⟩] _ rfl (by show 1 ≤ maxLen; decide)
set_option maxRecDepth 100000 in
set_option maxHeartbeats 8000000 in
theorem lent_any {w : World} {x : OpV} {D : List Dot} {G : List Run} (hD : SlAt dotE w x.deps.v D) (hG : SlAt runE w x.gone.v G) (hDl : D.length ≤ 1000000) (hGl : G.length ≤ 1000000) :
    Calls Tryz.prog 32 #[.agg (opA x)] w fun r w' => ∃ (gd cd gz cz : Nat), r = .returned (.agg (opA { x with deps := ⟨some ⟨gd, 0, none⟩, D.length, cd⟩, gone := ⟨some ⟨gz, 0, none⟩, G.length, cz⟩ })) ∧
      OwnAt dotE w' 28 gd cd (D ++ [⟨901, 902⟩]) ∧ OwnAt runE w' 77 gz cz (G ++ [⟨⟨0, 0⟩, 903⟩]) ∧ w.heap.size ≤ gd ∧ w.heap.size ≤ gz ∧ gd ≠ gz ∧ Kept (fun _ => False) w w' := by
  have hB := (Blk.new w 42 (opA x)).alloc (.cells zeroOp 42)
  have hR := Blk.new (w.alloc (.cells (opA x) 42)) 42 zeroOp
  rw [World.size_alloc] at hR
  have k0 : Kept (fun _ => False) w ((w.alloc (.cells (opA x) 42)).alloc (.cells zeroOp 42)) := ((Kept.refl _ _).alloc _).alloc _
  have z0 : ((w.alloc (.cells (opA x) 42)).alloc (.cells zeroOp 42)).heap.size = w.heap.size + 2 := by simp
  have HD := Lib.hid (hD.kept k0)
  have HG := Lib.hid (hG.kept k0)
  obtain ⟨da, dc, hdv, _, _⟩ := hD.sl
  obtain ⟨ga, gc, hgv, _, _⟩ := hG.sl
  clear hD hG
  go_enter Tryz.func32, Tryz.ntmps32
  go_upto_region 1 with fail
  obtain ⟨W, hW⟩ : ∃ W, ((w.alloc (.cells (opA x) 42)).alloc (.cells zeroOp 42)) = W := ⟨_, rfl⟩
  rw [hW] at hB hR k0 z0 HD HG ⊢
  have BX := Lib.hid hB
  have BR := Lib.hid hR
  have K0 := Lib.hid k0
  have Z0 := Lib.hid z0
  have x2 : W.cell? ⟨w.heap.size, 2, none⟩ = some (.slice da D.length dc) := (hB.cell' (i := 2) rfl).trans (congrArg some hdv)
  have x9 : W.cell? ⟨w.heap.size, 9, none⟩ = some (.slice ga G.length gc) := (hB.cell' (i := 9) rfl).trans (congrArg some hgv)
  rw [hdv] at HD
  rw [hgv] at HG
  clear hB hR k0 hW z0 hdv hgv
  have NW : Hid (W.ownsRow W.heap.size 28 dotE.k (.slice none 0 0) ([] : List Dot).length (dotE.flat [])) := Lib.hid (World.ownsRow_nil _ _ _ _)
  go_upto_region 3 with (at_builtin; (refine wpList_append_row dotE rfl (.tmp 5) (.tmp 7) 23 rfl W.heap.size 28 _ 16 Tryz.underlying23 info_dot rfl rfl rfl NW.out HD.out (by unfold maxLen; simp; omega) (by simp; omega) (Nat.le_refl _) ?_); (intro v1 w1 ho1 hk1; rw [List.nil_append] at ho1; have K1 : Hid (Kept (fun _ => False) W w1) := Lib.hid (hk1.mono (fun b _ e => by have e : (Value.slice none 0 0).ownBlock = some b := e; cases e)); have O1 := Lib.hid ho1; have N1 := Lib.hid (owns_new ho1); clear ho1 hk1))
  have LD := Lib.hid (lit_dot w1 901 902)
  have O1a := Lib.hid (show (w1.alloc (.cells #[.int .i64 901, .int .i64 902] 28)).ownsRow W.heap.size 28 dotE.k v1 D.length (dotE.flat D) from O1.out.alloc _)
  have K1a := Lib.hid (K1.out.alloc (.cells #[.int .i64 901, .int .i64 902] 28))
  go_upto_region 4 with (at_builtin; (refine wpList_append_row dotE rfl (.tmp 9) (.tmp 11) 23 rfl W.heap.size 28 _ 16 Tryz.underlying23 info_dot rfl rfl rfl O1a.out LD.out (by unfold maxLen; simp; omega) (by simp; omega) K1a.out.size ?_); (intro v2 w2 ho2 hk2; have K2 : Hid (Kept (fun _ => False) W w2) := Lib.hid (K1a.out.over hk2 N1.out); have O2 := Lib.hid ho2; clear ho2 hk2))
  have x9 := K2.out.cell x9
  have x2 := K2.out.cell x2
  have HG2 := Lib.hid (HG.out.kept K2.out)
  clear O1 O1a K1 K1a N1 LD NW HG HD
  have NW : Hid (w2.ownsRow w2.heap.size 77 runE.k (.slice none 0 0) ([] : List Run).length (runE.flat [])) := Lib.hid (World.ownsRow_nil _ _ _ _)
  go_upto_region 6 with (at_builtin; (refine wpList_append_row runE rfl (.tmp 13) (.tmp 15) 40 rfl w2.heap.size 77 _ 24 Tryz.underlying40 info_run rfl rfl rfl NW.out HG2.out (by unfold maxLen; simp; omega) (by simp; omega) (Nat.le_refl _) ?_); (intro v3 w3 ho3 hk3; rw [List.nil_append] at ho3; have K3 : Hid (Kept (fun _ => False) w2 w3) := Lib.hid (hk3.mono (fun b _ e => by have e : (Value.slice none 0 0).ownBlock = some b := e; cases e)); have O3 := Lib.hid ho3; have N3 := Lib.hid (owns_new ho3); clear ho3 hk3))
  have LR := Lib.hid (lit_run3 w3 903)
  have O3a := Lib.hid (show (w3.alloc (.cells #[.int .i64 0, .int .i64 0, .int .i64 903] 77)).ownsRow w2.heap.size 77 runE.k v3 G.length (runE.flat G) from O3.out.alloc _)
  have K3a := Lib.hid (K3.out.alloc (.cells #[.int .i64 0, .int .i64 0, .int .i64 903] 77))
  go_upto_region 7 with (at_builtin; (refine wpList_append_row runE rfl (.tmp 17) (.tmp 19) 40 rfl w2.heap.size 77 _ 24 Tryz.underlying40 info_run rfl rfl rfl O3a.out LR.out (by unfold maxLen; simp; omega) (by simp; omega) K3a.out.size ?_); (intro v4 w4 ho4 hk4; have K4 : Hid (Kept (fun _ => False) w2 w4) := Lib.hid (K3a.out.over hk4 N3.out); have O4 := Lib.hid ho4; clear ho4 hk4))
  have x9 := K4.out.cell x9
  have x2 := K4.out.cell x2
  obtain ⟨hl0, ⟨_, hno⟩ | ⟨gd, cd, hv, hzd, hOd⟩⟩ := own_of (E := dotE) O2.out
  · simp at hno
  have hm : (D ++ [(⟨901, 902⟩ : Dot)]).length = D.length + 1 := by simp
  rw [hm] at hv
  subst hv
  clear hl0
  obtain ⟨hl0, ⟨_, hno⟩ | ⟨gz, cz, hv, hzz, hOz⟩⟩ := own_of (E := runE) O4.out
  · simp at hno
  have hm2 : (G ++ [(⟨⟨0, 0⟩, 903⟩ : Run)]).length = G.length + 1 := by simp
  rw [hm2] at hv
  subst hv
  have K24 := Lib.hid (K2.out.trans K4.out (fun _ _ h => h))
  have BX4 := Lib.hid (K24.out.blk (fun h => h) BX.out)
  have BR4 := Lib.hid (K24.out.blk (fun h => h) BR.out)
  have OD := Lib.hid (hOd.keep K4.out (fun h => h))
  have OZ := Lib.hid hOz
  have KA := Lib.hid (K0.out.trans K24.out (fun _ _ h => h))
  have f2 := BX4.out.frozen 2
  have f9 := BX4.out.frozen 9
  have hd1 : D.length ≤ cd := by have := hOd.le.1; rw [hm] at this; omega
  have hz1 : G.length ≤ cz := by have := hOz.le.1; rw [hm2] at this; omega
  have hdI : (D.length : Int) ≤ cd := by omega
  have hzI : (G.length : Int) ≤ cz := by omega
  have hdlt := hOd.lt
  have FAR := Lib.hid (show w.heap.size ≤ gd ∧ w.heap.size ≤ gz ∧ gd ≠ gz ∧ w.heap.size + 2 ≤ gd ∧ w.heap.size + 2 ≤ gz from by have := Z0.out; have := K2.out.size; omega)
  have BX5 := Lib.hid ((BX4.out.set_ 2 (.slice (some ⟨gd, 0, none⟩) D.length cd)).set_ 9 (.slice (some ⟨gz, 0, none⟩) G.length cz))
  have k5 : Kept (fun b => b = w.heap.size) w4 ((w4.setCell ⟨w.heap.size, 2, none⟩ (.slice (some ⟨gd, 0, none⟩) D.length cd)).setCell ⟨w.heap.size, 9, none⟩ (.slice (some ⟨gz, 0, none⟩) G.length cz)) := ((Kept.refl (fun b => b = w.heap.size) w4).setCell (p := ⟨w.heap.size, 2, none⟩) (fun _ => rfl) _).setCell (p := ⟨w.heap.size, 9, none⟩) (fun _ => rfl) _
  have BR5 := Lib.hid (k5.blk (fun h => by have h : w.heap.size + 1 = w.heap.size := h; omega) BR4.out)
  have OD5 := Lib.hid (OD.out.keep k5 (fun h => by have h : gd = w.heap.size := h; have := FAR.out; omega))
  have OZ5 := Lib.hid (OZ.out.keep k5 (fun h => by have h : gz = w.heap.size := h; have := FAR.out; omega))
  have K5 := Lib.hid (KA.out.over k5 (fun b h => by have h : b = w.heap.size := h; omega))
  have E5 : Hid (((opA x).setIfInBounds 2 (.slice (some ⟨gd, 0, none⟩) D.length cd)).setIfInBounds 9 (.slice (some ⟨gz, 0, none⟩) G.length cz) = opA { x with deps := ⟨some ⟨gd, 0, none⟩, D.length, cd⟩, gone := ⟨some ⟨gz, 0, none⟩, G.length, cz⟩ }) := Lib.hid rfl
  rw [E5.out] at BX5
  clear hOd hOz hzd hzz hm hm2 hl0 k5 O2 O4 K2 K4 BX4 BR4 OD OZ K3 K3a O3 O3a LR NW HG2 hdlt
  go_upto_region 9 with fail
  clear x2 x9 f2 f9
  generalize ((w4.setCell ⟨w.heap.size, 2, none⟩ (.slice (some ⟨gd, 0, none⟩) D.length cd)).setCell ⟨w.heap.size, 9, none⟩ (.slice (some ⟨gz, 0, none⟩) G.length cz)) = w5 at *
  go_wp2_with (first
    | (refine wpList_load_row rfl 42 _ rfl w.heap.size rfl 42 _ (0, 0) _ BX5.out Tryz.underlying42 rfl (by rw [opA_size]; exact size_op) ?_)
    | (refine wpList_store_row rfl 42 _ _ rfl (w.heap.size + 1) (opA { x with deps := ⟨some ⟨gd, 0, none⟩, D.length, cd⟩, gone := ⟨some ⟨gz, 0, none⟩, G.length, cz⟩ }) rfl rfl 42 zeroOp BR5.out (by rw [opA_size]; exact size_op) (by rw [opA_size]; rfl) (opA_one _) ?_))
  have k6 : Kept (fun b => b = w.heap.size + 1) w5 (w5.setRow (w.heap.size + 1) (opA { x with deps := ⟨some ⟨gd, 0, none⟩, D.length, cd⟩, gone := ⟨some ⟨gz, 0, none⟩, G.length, cz⟩ })) := (Kept.refl (fun b => b = w.heap.size + 1) w5).setRow (fun _ => rfl) _
  exact bodyPost_ret (Blk.result rfl _ (BR5.out.row _) rfl Tryz.underlying42 rfl (by rw [opA_size]; exact size_op)) rfl ⟨gd, cd, gz, cz, rfl, OD5.out.keep k6 (fun h => by have h : gd = w.heap.size + 1 := h; have := FAR.out; omega), OZ5.out.keep k6 (fun h => by have h : gz = w.heap.size + 1 := h; have := FAR.out; omega), FAR.out.1, FAR.out.2.1, FAR.out.2.2.1, K5.out.over k6 (fun b h => by have h : b = w.heap.size + 1 := h; omega)⟩
end Go.Proofs.YtaaeomapbigfgaaGreat
