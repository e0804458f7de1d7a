/- A Queue made behind a world, which the calls leave as it was. -/
import Derived.Test.YtaaeomapbigfgaaQuLaw
import Derived.Test.YtaaeomapbigfgaaQuJoin
import Derived.Test.YtaaeomapbigfgaaQuTell
import Derived.Test.YtaaeomapbigfgaaQuTake
import Derived.Test.YtaaeomapbigfgaaQuWaits
namespace Go.Proofs.Ytaaeomapbigfgaa
open Go.RowKit Go.Proofs.Ytaaeomapbigfgaa.St
theorem QAt.tight {w : World} {g : Nat} {hold : Int} {s : QS} {F : Nat → Prop} {vv wv ov : Value} (h : QAt w g hold s F vv wv ov) : QAt w g hold s (fun b => F b ∧ b < w.heap.size) vv wv ov :=
  { h with wF := fun b hb => ⟨h.wF b hb, by obtain ⟨cs, hc⟩ := h.wOp b hb; exact hc.lt⟩, oF := fun b hb => ⟨h.oF b hb, h.oB b hb⟩ }
def inF (wb w : World) (b : Nat) : Prop := wb.heap.size ≤ b ∧ b < w.heap.size
/-- a Queue behind wb -/
def QIn (wb w : World) (g : Nat) (hold : Int) (s : QS) : Prop :=
  wb.heap.size ≤ g ∧ Kept (fun _ => False) wb w ∧ ∃ vv wv ov, QAt w g hold s (inF wb w) vv wv ov
section
variable {wb w w' : World} {g : Nat} {hold : Int} {s : QS}
theorem QIn.kept (h : QIn wb w g hold s) (hk : Kept (fun _ => False) w w') : QIn wb w' g hold s := by
  obtain ⟨h1, h2, vv, wv, ov, h3⟩ := h
  exact ⟨h1, h2.trans hk (fun _ _ h => h), vv, wv, ov, (h3.kept hk).wider (fun b hb => ⟨hb.1, Nat.lt_of_lt_of_le hb.2 hk.size⟩)⟩
theorem QIn.lt (h : QIn wb w g hold s) : g < w.heap.size := by obtain ⟨h1, h2, vv, wv, ov, h3⟩ := h; exact h3.head.lt
theorem QIn.wlen (h : QIn wb w g hold s) : s.W.length ≤ 100000 := by obtain ⟨h1, h2, vv, wv, ov, h3⟩ := h; exact h3.wlen
/-- what an offer may write -/
def offF (wb w : World) (g : Nat) : Nat → Prop := QF w g (inF wb w)
theorem offer_in {x : OpV} {D : List Dot} (h : QIn wb w g hold s) (hx : x.Join) (hok : x.dot.Ok) (hD : SlAt dotE w x.deps.v D) (hG : SlAt runE w x.gone.v []) (hDl : D.length ≤ 1000000) (hch : chkV 0 D = 0) (hget : getV D x.dot.site = x.dot.seq - 1) (hW : s.W.length ≤ 10000) (hO : s.O.length ≤ 100000) :
    Calls Try.prog 8 #[.pointer (some ⟨g, 0, none⟩), .agg (opA x)] w fun r w' => ∃ a e s', r = .returned (.tuple #[.int .i64 a, .int .i64 0]) ∧ key e = (x.dot, D) ∧ e.v.kind = 3 ∧ OfferIs hold s 0 e a s' ∧ QIn wb w' g hold s' ∧ Kept (offF wb w g) w w' := by
  obtain ⟨h1, h2, vv, wv, ov, h3⟩ := h
  refine (offer_any (c := 0) h3 hD hG hDl (by simp) hW hO (fun w' hk => check_join hx hok (hD.kept hk) hDl hch hget) (fun _ => hok) (fun b hb => hb.2)).mono ?_
  rintro r w' ⟨a, d, z, s', vv', wv', ov', rfl, hoff, hq, hk⟩
  refine ⟨a, _, s', rfl, rfl, hx.kind, hoff, ⟨h1, h2.over hk (fun b hb => ?_), vv', wv', ov', hq.tight.wider (fun b hb => ⟨?_, hb.2⟩)⟩, hk⟩
  · rcases hb with rfl | ⟨hb, _⟩
    · exact h1
    · exact hb.1
  · rcases hb.1 with hb | hb
    · exact hb.1
    · exact Nat.le_trans h2.size hb
theorem new_in {v : Value} {V : List Dot} (hv : SlAt dotE w v V) (hl : V.length ≤ 1000) (hc : newC hold V = 0) :
    Calls Try.prog 7 #[.int .i64 hold, v] w fun r w' => ∃ g, r = .returned (.tuple #[.pointer (some ⟨g, 0, none⟩), .int .i64 0]) ∧ QIn w w' g hold ⟨V, [], []⟩ := by
  refine (new_any (hold := hold) hv (by omega)).mono ?_
  rintro r w' ⟨hk, ⟨hne, _⟩ | ⟨_, g, v', rfl, hg, hb, ho⟩⟩
  · exact absurd hc hne
  · refine ⟨g, rfl, hg, hk, v', .slice none 0 0, .slice none 0 0, ⟨hb, owns_lower ho (Nat.zero_le _), hl, World.ownsRow_nil _ _ _ _, by simp, OutAt.nil _ _, by simp, fun b hb => by simp [Value.ownBlock] at hb, fun b hb => by simp [Value.ownBlock] at hb, fun b hb => by simp [Value.ownBlock] at hb, fun b hb => by simp [Value.ownBlock] at hb, by simp⟩⟩
theorem take_in (h : QIn wb w g hold s) :
    Calls Try.prog 9 #[.pointer (some ⟨g, 0, none⟩)] w fun r w' => Kept (fun x => x = g) w w' ∧ ((s.O = [] ∧ r = .returned (.tuple #[.agg zeroOp, .bool false]) ∧ QIn wb w' g hold s) ∨
      ∃ e O', s.O = e :: O' ∧ r = .returned (.tuple #[.agg (opA e.v), .bool true]) ∧ QIn wb w' g hold ⟨s.V, s.W, O'⟩) := by
  have h0 := h
  obtain ⟨h1, h2, vv, wv, ov, h3⟩ := h
  refine (take_any h3.head h3.out (by have := h3.olen; omega)).mono ?_
  rintro r w' (⟨hn, rfl, hk⟩ | ⟨e, O', ov', hO, rfl, hb, ho, hob, hk⟩)
  · exact ⟨hk.mono (fun _ _ h => h.elim), .inl ⟨hn, rfl, h0.kept hk⟩⟩
  · refine ⟨hk, .inr ⟨e, O', hO, rfl, h1, h2.over hk (fun b hb => by rw [hb]; exact h1), vv, wv, ov', ?_⟩⟩
    have hsp : Spares w (fun x => x = g) := fun b cs e => by subst e; exact ⟨fun hb => h3.head.ne_ hb (of_decide_eq_true (by kernel_rfl)) rfl, fun hb => h3.head.ne_ hb (of_decide_eq_true (by kernel_rfl)) rfl⟩
    exact ⟨hb, owns_keep h3.vec hk (owns_far h3.vec h3.head (of_decide_eq_true (by kernel_rfl))), h3.vlen, owns_keep h3.wait hk (owns_far h3.wait h3.head (of_decide_eq_true (by kernel_rfl))), h3.wlen, ho, by have := h3.olen; rw [hO] at this; simp at this; show O'.length ≤ _; omega,
      fun b hb => ⟨(h3.wF b hb).1, Nat.lt_of_lt_of_le (h3.wF b hb).2 hk.size⟩, fun b hb => by rw [hob] at hb; exact ⟨(h3.oF b hb).1, Nat.lt_of_lt_of_le (h3.oF b hb).2 hk.size⟩, fun b hb => by rw [hob]; exact h3.apart b hb, fun b hb => by rw [hob] at hb; exact Nat.lt_of_lt_of_le (h3.oB b hb) hk.size,
      fun y hy => (h3.ents y (by rcases List.mem_append.1 hy with hy | hy; exact List.mem_append.2 (.inl hy); exact List.mem_append.2 (.inr (by rw [hO]; exact List.mem_cons_of_mem _ hy)))).keep hk hsp⟩
theorem waits_in (h : QIn wb w g hold s) :
    Calls Try.prog 12 #[.pointer (some ⟨g, 0, none⟩)] w fun r w' => ∃ v' L, r = .returned v' ∧ L.Perm (dotsOf s.W) ∧ DSorted L ∧ w'.ownsRow w.heap.size 27 2 v' L.length (dotE.flat L) ∧ Kept (fun _ => False) w w' := by
  obtain ⟨h1, h2, vv, wv, ov, h3⟩ := h
  exact waits_any h3.head h3.wait (by have := h3.wlen; omega)
theorem vector_in (h : QIn wb w g hold s) :
    Calls Try.prog 11 #[.pointer (some ⟨g, 0, none⟩)] w fun r w' => ∃ v', r = .returned v' ∧ w'.ownsRow w.heap.size 27 2 v' s.V.length (dotE.flat s.V) ∧ Kept (fun _ => False) w w' := by
  obtain ⟨h1, h2, vv, wv, ov, h3⟩ := h
  exact vector_any h3.head (owns_slAt (E := dotE) h3.vec) (by have := h3.vlen; omega)
theorem free_in (h : QIn wb w g hold s) (hh1 : -1000000 ≤ hold) (hh2 : hold ≤ 1000000) :
    Calls Try.prog 18 #[.pointer (some ⟨g, 0, none⟩)] w fun r w' => r = .returned (.int .i64 (hold - s.W.length)) ∧ Grew w w' := by
  obtain ⟨h1, h2, vv, wv, ov, h3⟩ := h
  obtain ⟨a, c, rfl⟩ := owns_sl h3.wait
  exact free_any h3.head hh1 hh2 (by have := h3.wlen; omega)
end
end Go.Proofs.Ytaaeomapbigfgaa

