/- A Queue with all its blocks in a set: what touches none of them leaves it alone. Two Queues apart from one another, and what was taken out of them. -/
import Derived.Test.YtaaeomapbigfgaaGreatU9
import Derived.Test.YtaaeomapbigfgaaGreatU16
import Derived.Test.YtaaeomapbigfgaaGreatU15
import Derived.Test.YtaaeomapbigfgaaGreatU17
import Derived.Test.YtaaeomapbigfgaaGreatU11
namespace Go.Proofs.YtaaeomapbigfgaaGreat
open Go.RowKit Go.Proofs.YtaaeomapbigfgaaGreat.St
def Ent.dB (e : Ent) : Option Nat := e.v.deps.v.ownBlock
def Ent.gB (e : Ent) : Option Nat := e.v.gone.v.ownBlock
/-- no block of one is a block of the other -/
def Apart (a b : Ent) : Prop := (∀ x, a.dB = some x → b.dB ≠ some x) ∧ (∀ x, a.gB = some x → b.gB ≠ some x)
theorem Apart.symm {a b : Ent} (h : Apart a b) : Apart b a := ⟨fun x hb ha => h.1 x ha hb, fun x hb ha => h.2 x ha hb⟩
/-- the entries' lists lie apart from one another and from the vector -/
structure Sep (vv : Value) (L : List Ent) : Prop where
  pair : L.Pairwise Apart
  vec : ∀ e ∈ L, ∀ x, vv.ownBlock = some x → e.dB ≠ some x
theorem Sep.perm {vv : Value} {L M : List Ent} (h : Sep vv L) (hp : M.Perm L) : Sep vv M := ⟨(hp.pairwise_iff Apart.symm).2 h.pair, fun e he => h.vec e (hp.mem_iff.1 he)⟩
theorem Sep.sub {vv : Value} {L M : List Ent} (h : Sep vv L) (hs : M.Sublist L) : Sep vv M := ⟨h.pair.sublist hs, fun e he => h.vec e (hs.subset he)⟩
/-- the Queue at g, all its blocks in M -/
structure QBox (w : World) (g : Nat) (hold : Int) (s : QS) (M : Nat → Prop) (vv wv ov : Value) : Prop where
  at_ : QAt w g hold s M vv wv ov
  own : M g
  vecM : ∀ b, vv.ownBlock = some b → M b
  entM : ∀ e ∈ s.W ++ s.O, (∀ b, e.dB = some b → M b) ∧ ∀ b, e.gB = some b → M b
  sep : Sep vv (s.W ++ s.O)
  lt : ∀ b, M b → b < w.heap.size
theorem owns_in {w w' : World} {S : Nat → Prop} {base n size : Nat} {e : TypeId} {v : Value} {xs : List Value} (h : w.ownsRow base e size v n xs) (hk : Kept S w w') (hb : ∀ b, v.ownBlock = some b → ¬ S b) : w'.ownsRow base e size v n xs := owns_keep h hk hb
theorem Ent.Own.stays {w w' : World} {S : Nat → Prop} {e : Ent} (h : e.Own w) (hk : Kept S w w') (hd : ∀ b, e.dB = some b → ¬ S b) (hg : ∀ b, e.gB = some b → ¬ S b) : e.Own w' :=
  ⟨owns_keep h.deps hk hd, owns_keep h.gone hk hg, h.ok, h.len, h.len2⟩
section
variable {w w' : World} {g : Nat} {hold : Int} {s : QS} {M : Nat → Prop} {vv wv ov : Value}
theorem QBox.keep (h : QBox w g hold s M vv wv ov) {S : Nat → Prop} (hk : Kept S w w') (hS : ∀ b, M b → ¬ S b) : QBox w' g hold s M vv wv ov :=
  ⟨⟨hk.blk (hS g h.own) h.at_.head, owns_keep h.at_.vec hk (fun b hb => hS b (h.vecM b hb)), h.at_.vlen, owns_keep h.at_.wait hk (fun b hb => hS b (h.at_.wF b hb)), h.at_.wlen, h.at_.out.keep hk (fun b hb _ => hS b (h.at_.oF b hb)), h.at_.olen, h.at_.wF, h.at_.oF, h.at_.apart, fun b hb => Nat.lt_of_lt_of_le (h.at_.oB b hb) hk.size,
      fun e he => (h.at_.ents e he).stays hk (fun b hb => hS b ((h.entM e he).1 b hb)) (fun b hb => hS b ((h.entM e he).2 b hb))⟩,
    h.own, h.vecM, h.entM, h.sep, fun b hb => Nat.lt_of_lt_of_le (h.lt b hb) hk.size⟩
/-- the blocks of M and those that are new -/
def grown (M : Nat → Prop) (w w' : World) (b : Nat) : Prop := M b ∨ (w.heap.size ≤ b ∧ b < w'.heap.size)
theorem erase_perm {α : Type} : ∀ {L : List α} {i : Nat} {e : α}, L[i]? = some e → (e :: L.eraseIdx i).Perm L
  | [], _, _, h => by simp at h
  | x :: L, 0, e, h => by
    simp at h
    subst h
    exact List.Perm.refl _
  | x :: L, i + 1, e, h => by
    have ih := erase_perm (L := L) (i := i) (e := e) (by simpa using h)
    rw [List.eraseIdx_cons_succ]
    exact (List.Perm.swap x e _).trans (ih.cons x)
theorem drain_perm : ∀ (n : Nat) (s : QS), ((drain n s).W ++ (drain n s).O).Perm (s.W ++ s.O)
  | 0, s => List.Perm.refl _
  | n + 1, s => by
    unfold drain
    cases h1 : s.W.findIdx? (Ent.canB s.V) with
    | none => exact List.Perm.refl _
    | some i =>
      cases h2 : s.W[i]? with
      | none => simp only [h2]; exact List.Perm.refl _
      | some e =>
        simp only [h2]
        refine (drain_perm n (s.take i e)).trans ?_
        show (s.W.eraseIdx i ++ (s.O ++ [e])).Perm (s.W ++ s.O)
        have h3 : (s.W.eraseIdx i ++ (s.O ++ [e])).Perm ((e :: s.W.eraseIdx i) ++ s.O) := by
          rw [← List.append_assoc]
          exact List.perm_append_singleton e _
        exact h3.trans ((erase_perm h2).append_right _)
/-- what an offer leaves is part of what there was, and what was offered -/
theorem OfferIs.part {c a : Int} {s s' : QS} {e : Ent} (h : OfferIs hold s c e a s') : ∃ L, (s'.W ++ s'.O).Sublist L ∧ L.Perm (e :: (s.W ++ s.O)) := by
  rcases h with ⟨_, _, rfl⟩ | ⟨_, _, _, rfl⟩ | ⟨_, _, _, _, rfl⟩ | ⟨_, _, _, _, _, rfl⟩ | ⟨_, _, _, _, f, hf, rfl, _⟩
  · exact ⟨e :: (s'.W ++ s'.O), List.sublist_cons_self .., List.Perm.refl _⟩
  · exact ⟨e :: (s'.W ++ s'.O), List.sublist_cons_self .., List.Perm.refl _⟩
  · refine ⟨_, List.Sublist.refl _, (drain_perm _ _).trans ?_⟩
    show (s.W ++ (s.O ++ [e])).Perm _
    rw [← List.append_assoc]
    exact List.perm_append_singleton e _
  · refine ⟨_, List.Sublist.refl _, ?_⟩
    show ((s.W ++ [e]) ++ s.O).Perm _
    rw [List.append_assoc, List.singleton_append]
    exact List.perm_middle
  · refine ⟨(s.W ++ [e]) ++ s.O, (List.eraseIdx_sublist _ _).append (List.Sublist.refl _), ?_⟩
    rw [List.append_assoc, List.singleton_append]
    exact List.perm_middle
theorem QAt.snug {F : Nat → Prop} (h : QAt w g hold s F vv wv ov) : QAt w g hold s (fun b => F b ∧ b < w.heap.size) vv wv ov :=
  { h with wF := fun b hb => ⟨h.wF b hb, by obtain ⟨cs, hc⟩ := h.wOp b hb; exact hc.lt⟩, oF := fun b hb => ⟨h.oF b hb, h.oB b hb⟩ }
theorem QBox.offer (h : QBox w g hold s M vv wv ov) {x : OpV} {D : List Dot} {G : List Run} {c : Int} (hD : SlAt dotE w x.deps.v D) (hG : SlAt runE w x.gone.v G) (hDl : D.length ≤ 1000000) (hGl : G.length ≤ 1000000) (hWl : s.W.length ≤ 10000) (hOl : s.O.length ≤ 100000)
    (hchk : ∀ w', Kept (fun _ => False) w w' → Calls Tryz.prog 37 #[.agg (opA x)] w' fun r w'' => r = .returned (.int .i64 c) ∧ Kept (fun _ => False) w' w'') (hok : c = 0 → x.dot.Ok) :
    Calls Tryz.prog 13 #[.pointer (some ⟨g, 0, none⟩), .agg (opA x)] w fun r w' => ∃ (a : Int) (d z : Sl) (s' : QS) (vv' wv' ov' : Value), r = .returned (.tuple #[.int .i64 a, .int .i64 c]) ∧ OfferIs hold s c ⟨{ x with deps := d, gone := z }, D, G⟩ a s' ∧
      QBox w' g hold s' (grown M w w') vv' wv' ov' ∧ Kept M w w' := by
  refine (offer_any h.at_ hD hG hDl hGl hWl hOl hchk hok h.lt).mono ?_
  rintro r w' ⟨a, d, z, s', vv', wv', ov', rfl, hoff, hq, hk, f1, f2, f3⟩
  obtain ⟨L, hL1, hL2⟩ := hoff.part
  have hmem : ∀ e ∈ s'.W ++ s'.O, e = ⟨{ x with deps := d, gone := z }, D, G⟩ ∨ e ∈ s.W ++ s.O := fun e he => List.mem_cons.1 (hL2.mem_iff.1 (hL1.subset he))
  have hvlt : ∀ b, vv'.ownBlock = some b → b < w'.heap.size := fun b hb => by obtain ⟨cs, hc⟩ := owns_spared hq.vec b hb; exact hc.lt
  have hz := hk.size
  refine ⟨a, d, z, s', vv', wv', ov', rfl, hoff, ⟨hq.snug.wider (fun b hb => hb.1.imp id (fun h1 => ⟨h1, hb.2⟩)), .inl h.own, fun b hb => ?_, fun e he => ?_, ?_, fun b hb => ?_⟩, hk.mono (fun b _ hb => ?_)⟩
  · rcases f3 with rfl | f3
    · exact .inl (h.vecM b hb)
    · exact .inr ⟨(f3 b hb).1, hvlt b hb⟩
  · rcases hmem e he with rfl | h1
    · have ho := hq.ents _ he
      exact ⟨fun b hb => .inr ⟨f1 b hb, by obtain ⟨cs, hc⟩ := owns_spared ho.deps b hb; exact hc.lt⟩, fun b hb => .inr ⟨f2 b hb, by obtain ⟨cs, hc⟩ := owns_spared ho.gone b hb; exact hc.lt⟩⟩
    · exact ⟨fun b hb => .inl ((h.entM e h1).1 b hb), fun b hb => .inl ((h.entM e h1).2 b hb)⟩
  · have hbig : Sep vv' ((⟨{ x with deps := d, gone := z }, D, G⟩ : Ent) :: (s.W ++ s.O)) := by
      refine ⟨List.pairwise_cons.2 ⟨fun e he => ⟨fun b hb hb2 => ?_, fun b hb hb2 => ?_⟩, h.sep.pair⟩, fun e he b hb hb2 => ?_⟩
      · have h1 := f1 b hb
        have h2 := h.lt b ((h.entM e he).1 b hb2)
        omega
      · have h1 := f2 b hb
        have h2 := h.lt b ((h.entM e he).2 b hb2)
        omega
      · rcases List.mem_cons.1 he with rfl | he
        · have h1 := f1 b hb2
          rcases f3 with rfl | f3
          · have h2 := h.lt b (h.vecM b hb)
            omega
          · exact (f3 b hb).2 hb2
        · have h2 := h.lt b ((h.entM e he).1 b hb2)
          rcases f3 with rfl | f3
          · exact h.sep.vec e he b hb hb2
          · have := (f3 b hb).1
            omega
    exact (hbig.perm hL2).sub hL1
  · rcases hb with hb | hb
    · exact Nat.lt_of_lt_of_le (h.lt b hb) hz
    · exact hb.2
  · rcases hb with rfl | ⟨hb, _⟩
    · exact h.own
    · exact hb
/-- without a taken entry's blocks -/
def less (M : Nat → Prop) (e : Ent) (b : Nat) : Prop := M b ∧ e.dB ≠ some b ∧ e.gB ≠ some b
theorem QBox.take (h : QBox w g hold s M vv wv ov) :
    Calls Tryz.prog 14 #[.pointer (some ⟨g, 0, none⟩)] w fun r w' => (s.O = [] ∧ r = .returned (.tuple #[.agg zeroOp, .bool false]) ∧ QBox w' g hold s M vv wv ov ∧ Kept (fun _ => False) w w') ∨
      ∃ e O' ov', s.O = e :: O' ∧ r = .returned (.tuple #[.agg (opA e.v), .bool true]) ∧ QBox w' g hold ⟨s.V, s.W, O'⟩ (less M e) vv wv ov' ∧ e.Own w' ∧ (∀ b, e.dB = some b → M b) ∧ (∀ b, e.gB = some b → M b) ∧ Kept (fun b => b = g) w w' := by
  have h3 := h.at_
  refine (take_any h3.head h3.out (by have := h3.olen; omega)).mono ?_
  rintro r w' (⟨hn, rfl, hk⟩ | ⟨e, O', ov', hO, rfl, hb, ho, hob, hk⟩)
  · exact .inl ⟨hn, rfl, h.keep hk (fun _ _ h => h), hk⟩
  · right
    have heo : e ∈ s.W ++ s.O := List.mem_append.2 (.inr (by rw [hO]; exact List.mem_cons_self))
    have hee := h3.ents e heo
    have hsub : (s.W ++ O').Sublist (s.W ++ s.O) := by rw [hO]; exact (List.Sublist.refl _).append (List.sublist_cons_self ..)
    have hsp : Spares w (fun x => x = g) := fun b cs e => by subst e; exact ⟨fun hb => h3.head.ne_ hb (of_decide_eq_true (by kernel_rfl)) rfl, fun hb => h3.head.ne_ hb (of_decide_eq_true (by kernel_rfl)) rfl⟩
    have hdD : ∀ b, e.dB = some b → ∃ cs, Blk w b 28 cs := fun b hb => owns_spared hee.deps b hb
    have hgR : ∀ b, e.gB = some b → ∃ cs, Blk w b 77 cs := fun b hb => owns_spared hee.gone b hb
    have noD : ∀ {b t cs}, Blk w b t cs → t ≠ 28 → e.dB ≠ some b := fun {b t cs} hb hne h1 => by obtain ⟨cs2, h2⟩ := hdD b h1; exact hb.ne_ h2 hne rfl
    have noR : ∀ {b t cs}, Blk w b t cs → t ≠ 77 → e.gB ≠ some b := fun {b t cs} hb hne h1 => by obtain ⟨cs2, h2⟩ := hgR b h1; exact hb.ne_ h2 hne rfl
    have hap : ∀ y ∈ s.W ++ O', Apart e y := fun y hy => by
      have hp := h.sep.pair
      rw [hO] at hp
      have hp2 : (e :: (s.W ++ O')).Pairwise Apart := (List.perm_middle.pairwise_iff Apart.symm).1 hp
      exact (List.pairwise_cons.1 hp2).1 y hy
    have hout : ∀ b, ov.ownBlock = some b → ∃ cs, Blk w b 42 cs := fun b hb => by
      rcases h3.out with ⟨_, _, e2⟩ | ⟨g2, cap, R, e1, _, hO2⟩
      · rw [hO] at e2; cases e2
      · rw [e1] at hb
        have hb2 : some g2 = some b := hb
        injection hb2 with hb2
        subst hb2
        obtain ⟨cs, hc, _⟩ := hO2
        exact ⟨cs, hc⟩
    refine ⟨e, O', ov', hO, rfl, ⟨⟨hb, owns_keep h3.vec hk (owns_far h3.vec h3.head (of_decide_eq_true (by kernel_rfl))), h3.vlen, owns_keep h3.wait hk (owns_far h3.wait h3.head (of_decide_eq_true (by kernel_rfl))), h3.wlen, ho, by have := h3.olen; rw [hO] at this; simp at this; show O'.length ≤ _; omega,
      fun b hb => ?_, fun b hb => ?_, fun b hb => by rw [hob]; exact h3.apart b hb, fun b hb => by rw [hob] at hb; exact Nat.lt_of_lt_of_le (h3.oB b hb) hk.size, fun y hy => (h3.ents y (hsub.subset hy)).keep hk hsp⟩, ?_, fun b hb => ?_, fun y hy => ?_, h.sep.sub hsub, fun b hb => Nat.lt_of_lt_of_le (h.lt b hb.1) hk.size⟩, hee.keep hk hsp, (h.entM e heo).1, (h.entM e heo).2, hk⟩
    · obtain ⟨cs, hc⟩ := h3.wOp b hb
      exact ⟨h3.wF b hb, noD hc (of_decide_eq_true (by kernel_rfl)), noR hc (of_decide_eq_true (by kernel_rfl))⟩
    · rw [hob] at hb
      obtain ⟨cs, hc⟩ := hout b hb
      exact ⟨h3.oF b hb, noD hc (of_decide_eq_true (by kernel_rfl)), noR hc (of_decide_eq_true (by kernel_rfl))⟩
    · exact ⟨h.own, noD h3.head (of_decide_eq_true (by kernel_rfl)), noR h3.head (of_decide_eq_true (by kernel_rfl))⟩
    · obtain ⟨cs, hc⟩ := owns_spared h3.vec b hb
      exact ⟨h.vecM b hb, h.sep.vec e heo b hb, noR hc (of_decide_eq_true (by kernel_rfl))⟩
    · have hy2 := h3.ents y (hsub.subset hy)
      have ha := hap y hy
      refine ⟨fun b hb => ⟨(h.entM y (hsub.subset hy)).1 b hb, fun e1 => ha.1 b e1 hb, ?_⟩, fun b hb => ⟨(h.entM y (hsub.subset hy)).2 b hb, ?_, fun e1 => ha.2 b e1 hb⟩⟩
      · obtain ⟨cs, hc⟩ := owns_spared hy2.deps b hb
        exact noR hc (of_decide_eq_true (by kernel_rfl))
      · obtain ⟨cs, hc⟩ := owns_spared hy2.gone b hb
        exact noD hc (of_decide_eq_true (by kernel_rfl))
end
end Go.Proofs.YtaaeomapbigfgaaGreat
namespace Go.Proofs.YtaaeomapbigfgaaGreat
open Go.RowKit Go.Proofs.YtaaeomapbigfgaaGreat.St
section
variable {w w' : World} {g : Nat} {hold : Int} {s : QS} {M : Nat → Prop} {vv wv ov : Value}
theorem QBox.waits (h : QBox w g hold s M vv wv ov) :
    Calls Tryz.prog 16 #[.pointer (some ⟨g, 0, none⟩)] w fun r w' => ∃ v' L, r = .returned v' ∧ L.Perm (dotsOf s.W) ∧ DSorted L ∧ w'.ownsRow w.heap.size 28 2 v' L.length (dotE.flat L) ∧ Kept (fun _ => False) w w' :=
  waits_any h.at_.head h.at_.wait (by have := h.at_.wlen; omega)
theorem QBox.vector (h : QBox w g hold s M vv wv ov) :
    Calls Tryz.prog 18 #[.pointer (some ⟨g, 0, none⟩)] w fun r w' => ∃ v', r = .returned v' ∧ w'.ownsRow w.heap.size 28 2 v' s.V.length (dotE.flat s.V) ∧ Kept (fun _ => False) w w' :=
  vector_any h.at_.head (owns_slAt (E := dotE) h.at_.vec) (by have := h.at_.vlen; omega)
/-- the blocks between two worlds -/
def newB (w w' : World) (b : Nat) : Prop := w.heap.size ≤ b ∧ b < w'.heap.size
theorem new_box {v : Value} {V : List Dot} (hv : SlAt dotE w v V) (hl : V.length ≤ 1000) (hc : newC hold V = 0) :
    Calls Tryz.prog 9 #[.int .i64 hold, v] w fun r w' => Kept (fun _ => False) w w' ∧ ∃ g vv, r = .returned (.tuple #[.pointer (some ⟨g, 0, none⟩), .int .i64 0]) ∧ QBox w' g hold ⟨V, [], []⟩ (newB w w') vv (.slice none 0 0) (.slice none 0 0) := by
  refine (new_any (hold := hold) hv (by omega)).mono ?_
  rintro r w' ⟨hk, ⟨hne, _⟩ | ⟨_, g, v', rfl, hg, hb, ho⟩⟩
  · exact absurd hc hne
  · have no : ∀ {P : Prop} {b : Nat}, (Value.slice none 0 0).ownBlock = some b → P := fun h => by simp [Value.ownBlock] at h
    refine ⟨hk, g, v', rfl, ⟨⟨hb, owns_lower ho (Nat.zero_le _), hl, World.ownsRow_nil _ _ _ _, by simp, OutAt.nil _ _, by simp, fun b hb => no hb, fun b hb => no hb, fun b hb => no hb, fun b hb => no hb, by simp⟩, ⟨hg, hb.lt⟩, fun b hb2 => ⟨owns_new ho b hb2, by obtain ⟨cs, hc⟩ := owns_spared ho b hb2; exact hc.lt⟩, by simp, ⟨List.Pairwise.nil, by simp⟩, fun b hb => hb.2⟩⟩
end
/-- what stands beside the two Queues: operations that were taken (K), each in lists of its own; a row kv of some of them (R) -/
structure Beside (b0 : Nat) (w : World) (kv : Value) (R K : List Ent) (Mq Mp : Nat → Prop) : Prop where
  dis : ∀ b, Mq b → ¬ Mp b
  lo : ∀ b, Mq b ∨ Mp b → b0 ≤ b
  row : w.ownsRow b0 42 11 kv R.length (entE.flat R)
  sub : R.Sublist K
  rowM : ∀ b, kv.ownBlock = some b → ¬ Mq b ∧ ¬ Mp b
  ents : ∀ e ∈ K, e.Own w ∧ (∀ b, e.dB = some b → b0 ≤ b ∧ ¬ Mq b ∧ ¬ Mp b) ∧ ∀ b, e.gB = some b → b0 ≤ b ∧ ¬ Mq b ∧ ¬ Mp b
  pair : K.Pairwise Apart
theorem Beside.swap {b0 : Nat} {w : World} {kv : Value} {R K : List Ent} {Mq Mp : Nat → Prop} (h : Beside b0 w kv R K Mq Mp) : Beside b0 w kv R K Mp Mq :=
  ⟨fun b hb hq => h.dis b hq hb, fun b hb => h.lo b hb.symm, h.row, h.sub, fun b hb => (h.rowM b hb).symm, fun e he => ⟨(h.ents e he).1, fun b hb => ⟨((h.ents e he).2.1 b hb).1, ((h.ents e he).2.1 b hb).2.symm⟩, fun b hb => ⟨((h.ents e he).2.2 b hb).1, ((h.ents e he).2.2 b hb).2.symm⟩⟩, h.pair⟩
/-- the two Queues at gq and gp, which say Cq and Cp; the taken ones K in the row kv -/
def Own3 (b0 : Nat) (w : World) (gq gp : Nat) (hold : Int) (Cq Cp : CQ) (kv : Value) (R K : List Ent) : Prop :=
  ∃ (sq sp : QS) (Mq Mp : Nat → Prop) (v1 w1 o1 v2 w2 o2 : Value), QBox w gq hold sq Mq v1 w1 o1 ∧ QBox w gp hold sp Mp v2 w2 o2 ∧ sq.cont = Cq ∧ sp.cont = Cp ∧ Beside b0 w kv R K Mq Mp
section
variable {b0 : Nat} {w w' : World} {gq gp : Nat} {hold : Int} {Cq Cp : CQ} {kv : Value} {R K : List Ent}
theorem Own3.swap (h : Own3 b0 w gq gp hold Cq Cp kv R K) : Own3 b0 w gp gq hold Cp Cq kv R K := by
  obtain ⟨sq, sp, Mq, Mp, v1, w1, o1, v2, w2, o2, h1, h2, h3, h4, h5⟩ := h
  exact ⟨sp, sq, Mp, Mq, v2, w2, o2, v1, w1, o1, h2, h1, h4, h3, h5.swap⟩
/-- what touches nothing of it -/
theorem Own3.keep (h : Own3 b0 w gq gp hold Cq Cp kv R K) (hk : Kept (fun _ => False) w w') : Own3 b0 w' gq gp hold Cq Cp kv R K := by
  obtain ⟨sq, sp, Mq, Mp, v1, w1, o1, v2, w2, o2, h1, h2, h3, h4, h5⟩ := h
  exact ⟨sq, sp, Mq, Mp, v1, w1, o1, v2, w2, o2, h1.keep hk (fun _ _ h => h), h2.keep hk (fun _ _ h => h), h3, h4, h5.dis, h5.lo, owns_keep h5.row hk (fun _ _ h => h), h5.sub, h5.rowM, fun e he => ⟨(h5.ents e he).1.stays hk (fun _ _ h => h) (fun _ _ h => h), (h5.ents e he).2⟩, h5.pair⟩
theorem Own3.offer (h : Own3 b0 w gq gp hold Cq Cp kv R K) (hb0 : b0 ≤ w.heap.size) {x : OpV} {D : List Dot} {G : List Run} {c : Int} (hD : SlAt dotE w x.deps.v D) (hG : SlAt runE w x.gone.v G) (hDl : D.length ≤ 1000000) (hGl : G.length ≤ 1000000) (hWl : Cq.W.length ≤ 10000) (hOl : Cq.O.length ≤ 100000)
    (hchk : ∀ w', Kept (fun _ => False) w w' → Calls Tryz.prog 37 #[.agg (opA x)] w' fun r w'' => r = .returned (.int .i64 c) ∧ Kept (fun _ => False) w' w'') (hok : c = 0 → x.dot.Ok) :
    Calls Tryz.prog 13 #[.pointer (some ⟨gq, 0, none⟩), .agg (opA x)] w fun r w' => ∃ a : Int, r = .returned (.tuple #[.int .i64 a, .int .i64 c]) ∧ (a, (coffer hold c Cq ({ x with deps := ⟨none, 0, 0⟩, gone := ⟨none, 0, 0⟩ }, D, G)).2) = coffer hold c Cq ({ x with deps := ⟨none, 0, 0⟩, gone := ⟨none, 0, 0⟩ }, D, G) ∧
      Own3 b0 w' gq gp hold (coffer hold c Cq ({ x with deps := ⟨none, 0, 0⟩, gone := ⟨none, 0, 0⟩ }, D, G)).2 Cp kv R K ∧ Kept (fun b => b0 ≤ b) w w' := by
  obtain ⟨sq, sp, Mq, Mp, v1, w1, o1, v2, w2, o2, h1, h2, rfl, h4, h5⟩ := h
  have e1 : sq.cont.W.length = sq.W.length := List.length_map _
  have e2 : sq.cont.O.length = sq.O.length := List.length_map _
  rw [e1] at hWl
  rw [e2] at hOl
  refine (h1.offer hD hG hDl hGl hWl hOl hchk hok).mono ?_
  rintro r w' ⟨a, d, z, s', vv', wv', ov', rfl, hoff, hq, hk⟩
  have hc := hoff.cont
  rw [cont_moved] at hc
  have hc2 : s'.cont = (coffer hold c sq.cont ({ x with deps := ⟨none, 0, 0⟩, gone := ⟨none, 0, 0⟩ }, D, G)).2 := congrArg Prod.snd hc
  have hout : ∀ b, b < w.heap.size → ¬ Mq b → ¬ grown Mq w w' b := fun b hb hn h => by
    rcases h with h | h
    · exact hn h
    · omega
  refine ⟨a, rfl, by rw [← hc], ⟨s', sp, grown Mq w w', Mp, vv', wv', ov', v2, w2, o2, hq, h2.keep hk (fun b hb hq => h5.dis b hq hb), hc2, h4, ?_, ?_, owns_keep h5.row hk (fun b hb => (h5.rowM b hb).1), h5.sub, ?_, ?_, h5.pair⟩, hk.mono (fun b _ hb => h5.lo b (.inl hb))⟩
  · rintro b (hb | hb) hp
    · exact h5.dis b hb hp
    · have := h2.lt b hp
      omega
  · rintro b ((hb | hb) | hb)
    · exact h5.lo b (.inl hb)
    · omega
    · exact h5.lo b (.inr hb)
  · intro b hb
    obtain ⟨cs, hcs⟩ := owns_spared h5.row b hb
    exact ⟨hout b hcs.lt (h5.rowM b hb).1, (h5.rowM b hb).2⟩
  · intro e he
    obtain ⟨ho, hd, hg⟩ := h5.ents e he
    refine ⟨ho.stays hk (fun b hb => (hd b hb).2.1) (fun b hb => (hg b hb).2.1), fun b hb => ⟨(hd b hb).1, hout b ?_ (hd b hb).2.1, (hd b hb).2.2⟩, fun b hb => ⟨(hg b hb).1, hout b ?_ (hg b hb).2.1, (hg b hb).2.2⟩⟩
    · obtain ⟨cs, hc⟩ := owns_spared ho.deps b hb; exact hc.lt
    · obtain ⟨cs, hc⟩ := owns_spared ho.gone b hb; exact hc.lt
/-- one is taken, or there is none -/
theorem Own3.take (h : Own3 b0 w gq gp hold Cq Cp kv R K) :
    Calls Tryz.prog 14 #[.pointer (some ⟨gq, 0, none⟩)] w fun r w' => (Cq.O = [] ∧ r = .returned (.tuple #[.agg zeroOp, .bool false]) ∧ Own3 b0 w' gq gp hold Cq Cp kv R K ∧ Kept (fun b => b = gq) w w' ∧ b0 ≤ gq) ∨
      ∃ e O', Cq.O = cont e :: O' ∧ r = .returned (.tuple #[.agg (opA e.v), .bool true]) ∧ Own3 b0 w' gq gp hold ⟨Cq.V, Cq.W, O'⟩ Cp kv R (K ++ [e]) ∧ Kept (fun b => b = gq) w w' ∧ b0 ≤ gq := by
  have h0 := h
  obtain ⟨sq, sp, Mq, Mp, v1, w1, o1, v2, w2, o2, h1, h2, rfl, h4, h5⟩ := h
  refine h1.take.mono ?_
  rintro r w' (⟨hn, rfl, hq, hk⟩ | ⟨e, O', ov', hO, rfl, hq, ho, hd, hg, hk⟩)
  · refine .inl ⟨?_, rfl, h0.keep hk, hk.mono (fun _ _ h => h.elim), h5.lo gq (.inl h1.own)⟩
    show sq.O.map cont = []
    rw [hn]
    rfl
  · right
    have hgq : Mq gq := h1.own
    have hS : ∀ b, ¬ Mq b → ¬ b = gq := fun b hn e => hn (e ▸ hgq)
    have heo : e ∈ sq.W ++ sq.O := List.mem_append.2 (.inr (by rw [hO]; exact List.mem_cons_self))
    refine ⟨e, O'.map cont, ?_, rfl, ⟨⟨sq.V, sq.W, O'⟩, sp, less Mq e, Mp, v1, w1, ov', v2, w2, o2, hq, h2.keep hk (fun b hb hq => h5.dis gq hgq (hq ▸ hb)), rfl, h4, ?_⟩, hk, h5.lo gq (.inl hgq)⟩
    · show sq.O.map cont = _
      rw [hO]
      rfl
    · refine ⟨fun b hb => h5.dis b hb.1, fun b hb => h5.lo b (hb.imp (fun h => h.1) id), owns_keep h5.row hk (fun b hb => hS b (h5.rowM b hb).1), h5.sub.trans (List.sublist_append_left _ _), fun b hb => ⟨fun h => (h5.rowM b hb).1 h.1, (h5.rowM b hb).2⟩, fun y hy => ?_, ?_⟩
      · rcases List.mem_append.1 hy with hy | hy
        · obtain ⟨yo, yd, yg⟩ := h5.ents y hy
          exact ⟨yo.stays hk (fun b hb => hS b (yd b hb).2.1) (fun b hb => hS b (yg b hb).2.1), fun b hb => ⟨(yd b hb).1, fun h => (yd b hb).2.1 h.1, (yd b hb).2.2⟩, fun b hb => ⟨(yg b hb).1, fun h => (yg b hb).2.1 h.1, (yg b hb).2.2⟩⟩
        · rw [List.mem_singleton.1 hy]
          exact ⟨ho, fun b hb => ⟨h5.lo b (.inl (hd b hb)), fun h => h.2.1 hb, h5.dis b (hd b hb)⟩, fun b hb => ⟨h5.lo b (.inl (hg b hb)), fun h => h.2.2 hb, h5.dis b (hg b hb)⟩⟩
      · refine List.pairwise_append.2 ⟨h5.pair, List.pairwise_singleton _ _, fun a ha b hb => ?_⟩
        rw [List.mem_singleton.1 hb]
        obtain ⟨_, yd, yg⟩ := h5.ents a ha
        exact ⟨fun x hx hx2 => (yd x hx).2.1 (hd x hx2), fun x hx hx2 => (yg x hx).2.1 (hg x hx2)⟩
theorem Own3.head (h : Own3 b0 w gq gp hold Cq Cp kv R K) : ∃ cs, Blk w gq 49 cs := by
  obtain ⟨sq, sp, Mq, Mp, v1, w1, o1, v2, w2, o2, h1, _⟩ := h
  exact ⟨_, h1.at_.head⟩
/-- a taken one is laid into the row -/
theorem Own3.appended (h : Own3 b0 w gq gp hold Cq Cp kv R K) {v' : Value} {e : Ent} (ho : w'.ownsRow b0 42 11 v' (R.length + 1) (entE.flat (R ++ [e]))) (hg : Grow1 w w' kv v') (hs : (R ++ [e]).Sublist K) :
    Own3 b0 w' gq gp hold Cq Cp v' (R ++ [e]) K ∧ Kept (fun b => b0 ≤ b) w w' := by
  obtain ⟨sq, sp, Mq, Mp, v1, w1, o1, v2, w2, o2, h1, h2, h3, h4, h5⟩ := h
  have hk := grow1_kept hg
  have nd : ∀ {b cs}, Blk w b 28 cs → ¬ kv.ownBlock = some b := fun {b cs} hb e => by obtain ⟨cs2, hc⟩ := owns_spared h5.row b e; exact hc.ne_ hb (of_decide_eq_true (by kernel_rfl)) rfl
  have nr : ∀ {b cs}, Blk w b 77 cs → ¬ kv.ownBlock = some b := fun {b cs} hb e => by obtain ⟨cs2, hc⟩ := owns_spared h5.row b e; exact hc.ne_ hb (of_decide_eq_true (by kernel_rfl)) rfl
  refine ⟨⟨sq, sp, Mq, Mp, v1, w1, o1, v2, w2, o2, h1.keep hk (fun b hb e => (h5.rowM b e).1 hb), h2.keep hk (fun b hb e => (h5.rowM b e).2 hb), h3, h4, h5.dis, h5.lo, by rw [List.length_append]; exact ho, hs, fun b hb => ?_, fun y hy => ?_, h5.pair⟩, hk.mono (fun b _ hb => owns_new h5.row b hb)⟩
  · rcases hg with ⟨e1, _⟩ | ⟨e1, _⟩
    · exact h5.rowM b (e1 ▸ hb)
    · rw [e1] at hb
      injection hb with hb
      exact ⟨fun h => by have := h1.lt b h; omega, fun h => by have := h2.lt b h; omega⟩
  · obtain ⟨yo, yd, yg⟩ := h5.ents y hy
    exact ⟨yo.stays hk (fun b hb => by obtain ⟨cs, hc⟩ := owns_spared yo.deps b hb; exact nd hc) (fun b hb => by obtain ⟨cs, hc⟩ := owns_spared yo.gone b hb; exact nr hc), yd, yg⟩
theorem Own3.own (h : Own3 b0 w gq gp hold Cq Cp kv R K) {e : Ent} (he : e ∈ K) : e.Own w := by
  obtain ⟨sq, sp, Mq, Mp, v1, w1, o1, v2, w2, o2, h1, h2, h3, h4, h5⟩ := h
  exact (h5.ents e he).1
/-- what Waits tells: the dots of those that wait, in order -/
def WaitsIs (C : CQ) (L : List Dot) : Prop := L.Perm (C.W.map (·.1.dot)) ∧ DSorted L
theorem WaitsIs.one {C : CQ} {L M : List Dot} (h : WaitsIs C L) (h' : WaitsIs C M) : L = M := by
  refine List.Perm.eq_of_pairwise (le := fun a b : Dot => ¬ b.lt a) (fun a b _ _ h3 h4 => ?_) h.2 h'.2 (h.1.trans h'.1.symm)
  have h3' : ¬ b.id.lt a.id := h3
  have h4' : ¬ a.id.lt b.id := h4
  unfold ID.lt at h3' h4'
  unfold Dot.id at h3' h4'
  rw [Dot.ext_iff]
  simp only at h3' h4'
  omega
theorem Own3.waits (h : Own3 b0 w gq gp hold Cq Cp kv R K) :
    Calls Tryz.prog 16 #[.pointer (some ⟨gq, 0, none⟩)] w fun r w' => ∃ v' L, r = .returned v' ∧ WaitsIs Cq L ∧ L.length ≤ 100000 ∧ w'.ownsRow w.heap.size 28 2 v' L.length (dotE.flat L) ∧ Kept (fun _ => False) w w' := by
  obtain ⟨sq, sp, Mq, Mp, v1, w1, o1, v2, w2, o2, h1, h2, rfl, h4, h5⟩ := h
  refine h1.waits.mono ?_
  rintro r w' ⟨v', L, rfl, hp, hs, ho, hk⟩
  have e : sq.cont.W.map (·.1.dot) = dotsOf sq.W := by show (sq.W.map cont).map _ = _; rw [List.map_map]; rfl
  exact ⟨v', L, rfl, ⟨by rw [e]; exact hp, hs⟩, by rw [hp.length_eq]; have := h1.at_.wlen; simpa [dotsOf] using this, ho, hk⟩
theorem Own3.vector (h : Own3 b0 w gq gp hold Cq Cp kv R K) :
    Calls Tryz.prog 18 #[.pointer (some ⟨gq, 0, none⟩)] w fun r w' => ∃ v', r = .returned v' ∧ Cq.V.length ≤ 1000 ∧ w'.ownsRow w.heap.size 28 2 v' Cq.V.length (dotE.flat Cq.V) ∧ Kept (fun _ => False) w w' := by
  obtain ⟨sq, sp, Mq, Mp, v1, w1, o1, v2, w2, o2, h1, h2, rfl, h4, h5⟩ := h
  refine h1.vector.mono ?_
  rintro r w' ⟨v', rfl, ho, hk⟩
  exact ⟨v', rfl, h1.at_.vlen, ho, hk⟩
end
end Go.Proofs.YtaaeomapbigfgaaGreat
