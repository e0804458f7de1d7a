/- A queue by the contents of its operations: the same offers leave the same contents. Two Queues apart from one another, and what was taken out of them. -/
import Derived.Test.YtaaeomapbigfgaaGreatV15
import Derived.Test.YtaaeomapbigfgaaGreatV14
namespace Go.Proofs.YtaaeomapbigfgaaGreat
open Go.Proofs.YtaaeomapbigfgaaGreat.St
/-- what an operation says, without where its lists lie -/
abbrev Cont := OpV × List Dot × List Run
def cont (e : Ent) : Cont := ({ e.v with deps := ⟨none, 0, 0⟩, gone := ⟨none, 0, 0⟩ }, e.D, e.G)
def ckey (c : Cont) : Key := (c.1.dot, c.2.1)
theorem ckey_cont (e : Ent) : ckey (cont e) = key e := rfl
theorem cont_moved (x : OpV) (d z : Sl) (D : List Dot) (G : List Run) : cont ⟨{ x with deps := d, gone := z }, D, G⟩ = ({ x with deps := ⟨none, 0, 0⟩, gone := ⟨none, 0, 0⟩ }, D, G) := rfl
structure CQ where
  V : List Dot
  W : List Cont
  O : List Cont
def QS.cont (s : QS) : CQ := ⟨s.V, s.W.map Go.Proofs.YtaaeomapbigfgaaGreat.cont, s.O.map Go.Proofs.YtaaeomapbigfgaaGreat.cont⟩
def cgr (W : List Cont) : Nat → Nat
  | 0 => 0
  | n + 1 => match W[n]?, W[cgr W n]? with
    | some e, some f => if 0 < farV e.1.dot f.1.dot e.2.1 f.2.1 then n else cgr W n
    | _, _ => cgr W n
def cdrain : Nat → CQ → CQ
  | 0, s => s
  | n + 1, s => match s.W.findIdx? (fun k => decide (Ent.can s.V k.1.dot k.2.1)) with
    | none => s
    | some i => match s.W[i]? with
      | none => s
      | some e => cdrain n ⟨addV s.V e.1.dot, s.W.eraseIdx i, s.O ++ [e]⟩
def coffer (hold c : Int) (s : CQ) (e : Cont) : Int × CQ :=
  if c ≠ 0 then (0, s) else
  if hasV s.V e.1.dot ∨ (s.W.any fun k => decide (k.1.dot = e.1.dot)) = true then (3, s) else
  if Ent.can s.V e.1.dot e.2.1 then (1, cdrain s.W.length ⟨addV s.V e.1.dot, s.W, s.O ++ [e]⟩) else
  if (s.W.length : Int) + 1 ≤ hold then (2, ⟨s.V, s.W ++ [e], s.O⟩) else
  (match (s.W ++ [e])[cgr (s.W ++ [e]) (s.W.length + 1)]? with
    | some f => (if f.1.dot = e.1.dot then 4 else 2)
    | none => 2, ⟨s.V, (s.W ++ [e]).eraseIdx (cgr (s.W ++ [e]) (s.W.length + 1)), s.O⟩)
theorem grI_cont (W : List Ent) : ∀ n, grI W n = cgr (W.map cont) n
  | 0 => rfl
  | n + 1 => by
    unfold grI cgr
    rw [grI_cont W n, List.getElem?_map, List.getElem?_map]
    cases h1 : W[n]? with
    | none => rfl
    | some e =>
      cases h2 : W[cgr (W.map cont) n]? with
      | none => rfl
      | some f => rfl
theorem drain_cont : ∀ (n : Nat) (s : QS), (drain n s).cont = cdrain n s.cont
  | 0, _ => rfl
  | n + 1, s => by
    unfold drain cdrain
    have hf : s.cont.W.findIdx? (fun k => decide (Ent.can s.cont.V k.1.dot k.2.1)) = s.W.findIdx? (Ent.canB s.V) := by
      show (s.W.map cont).findIdx? _ = _
      rw [List.findIdx?_map]
      rfl
    rw [hf]
    cases h1 : s.W.findIdx? (Ent.canB s.V) with
    | none => rfl
    | some i =>
      have hg : s.cont.W[i]? = s.W[i]?.map cont := List.getElem?_map
      cases h2 : s.W[i]? with
      | none => simp only [hg, h2]; rfl
      | some e =>
        simp only [hg, h2, Option.map_some]
        rw [drain_cont n (s.take i e)]
        congr 1
        show CQ.mk _ ((s.W.eraseIdx i).map cont) ((s.O ++ [e]).map cont) = CQ.mk _ ((s.W.map cont).eraseIdx i) (s.O.map cont ++ [cont e])
        rw [map_erase, List.map_append]
        rfl
theorem has_cont (W : List Ent) (d : Dot) : hasDot W d = (W.map cont).any fun k => decide (k.1.dot = d) := by
  unfold hasDot
  rw [List.any_map]
  rfl
theorem OfferIs.cont {hold c a : Int} {s s' : QS} {e : Ent} (h : OfferIs hold s c e a s') : (a, s'.cont) = coffer hold c s.cont (Go.Proofs.YtaaeomapbigfgaaGreat.cont e) := by
  unfold coffer
  have e0 : (s.cont.W.any fun k => decide (k.1.dot = (Go.Proofs.YtaaeomapbigfgaaGreat.cont e).1.dot)) = hasDot s.W e.v.dot := (has_cont s.W e.v.dot).symm
  have e1 : s.cont.W.length = s.W.length := List.length_map _
  have e2 : s.cont.W ++ [Go.Proofs.YtaaeomapbigfgaaGreat.cont e] = (s.W ++ [e]).map Go.Proofs.YtaaeomapbigfgaaGreat.cont := by rw [List.map_append]; rfl
  rw [e0, e1, e2, ← grI_cont]
  rcases h with ⟨h, rfl, rfl⟩ | ⟨h0, hhad, rfl, rfl⟩ | ⟨h0, hnot, hc, rfl, rfl⟩ | ⟨h0, hnot, hc, hr, rfl, rfl⟩ | ⟨h0, hnot, hc, hr, f, hf, rfl, rfl⟩
  · rw [if_pos h]
  · rw [if_neg (show ¬ c ≠ 0 from fun h => h h0), if_pos (show hasV s'.cont.V (Go.Proofs.YtaaeomapbigfgaaGreat.cont e).1.dot ∨ _ from hhad)]
  · rw [if_neg (show ¬ c ≠ 0 from fun h => h h0), if_neg (show ¬ (hasV s.cont.V (Go.Proofs.YtaaeomapbigfgaaGreat.cont e).1.dot ∨ _) from hnot), if_pos (show Ent.can s.cont.V (Go.Proofs.YtaaeomapbigfgaaGreat.cont e).1.dot (Go.Proofs.YtaaeomapbigfgaaGreat.cont e).2.1 from hc), drain_cont]
    congr 2
    show CQ.mk _ _ ((s.O ++ [e]).map Go.Proofs.YtaaeomapbigfgaaGreat.cont) = _
    rw [List.map_append]
    rfl
  · rw [if_neg (show ¬ c ≠ 0 from fun h => h h0), if_neg (show ¬ (hasV s.cont.V (Go.Proofs.YtaaeomapbigfgaaGreat.cont e).1.dot ∨ _) from hnot), if_neg (show ¬ Ent.can s.cont.V (Go.Proofs.YtaaeomapbigfgaaGreat.cont e).1.dot (Go.Proofs.YtaaeomapbigfgaaGreat.cont e).2.1 from hc), if_pos hr]
    congr 1
  · rw [if_neg (show ¬ c ≠ 0 from fun h => h h0), if_neg (show ¬ (hasV s.cont.V (Go.Proofs.YtaaeomapbigfgaaGreat.cont e).1.dot ∨ _) from hnot), if_neg (show ¬ Ent.can s.cont.V (Go.Proofs.YtaaeomapbigfgaaGreat.cont e).1.dot (Go.Proofs.YtaaeomapbigfgaaGreat.cont e).2.1 from hc), if_neg (show ¬ ((s.W.length : Int) + 1 ≤ hold) by omega), List.getElem?_map, hf, map_erase]
    rfl
end Go.Proofs.YtaaeomapbigfgaaGreat
namespace Go.Proofs.YtaaeomapbigfgaaGreat
open Go.RowKit Go.Proofs.YtaaeomapbigfgaaGreat.St
section
variable {w w' : World} {g : Nat} {hold : Int} {s : QS} {M : Nat → Prop} {vv wv ov : Value}
theorem QBox.waits (h : QBox w g hold s M vv wv ov) :
    Calls Tryz.prog 16 #[.pointer (some ⟨g, 0, none⟩)] w fun r w' => ∃ v' L, r = .returned v' ∧ L.Perm (dotsOf s.W) ∧ DSorted L ∧ w'.ownsRow w.heap.size 28 2 v' L.length (dotE.flat L) ∧ Kept (fun _ => False) w w' :=
  waits_any h.at_.head h.at_.wait (by have := h.at_.wlen; omega)
theorem QBox.vector (h : QBox w g hold s M vv wv ov) :
    Calls Tryz.prog 18 #[.pointer (some ⟨g, 0, none⟩)] w fun r w' => ∃ v', r = .returned v' ∧ w'.ownsRow w.heap.size 28 2 v' s.V.length (dotE.flat s.V) ∧ Kept (fun _ => False) w w' :=
  vector_any h.at_.head (owns_slAt (E := dotE) h.at_.vec) (by have := h.at_.vlen; omega)
/-- the blocks between two worlds -/
def newB (w w' : World) (b : Nat) : Prop := w.heap.size ≤ b ∧ b < w'.heap.size
theorem new_box {v : Value} {V : List Dot} (hv : SlAt dotE w v V) (hl : V.length ≤ 1000) (hc : newC hold V = 0) :
    Calls Tryz.prog 9 #[.int .i64 hold, v] w fun r w' => Kept (fun _ => False) w w' ∧ ∃ g vv, r = .returned (.tuple #[.pointer (some ⟨g, 0, none⟩), .int .i64 0]) ∧ QBox w' g hold ⟨V, [], []⟩ (newB w w') vv (.slice none 0 0) (.slice none 0 0) := by
  refine (new_any (hold := hold) hv (by omega)).mono ?_
  rintro r w' ⟨hk, ⟨hne, _⟩ | ⟨_, g, v', rfl, hg, hb, ho⟩⟩
  · exact absurd hc hne
  · have no : ∀ {P : Prop} {b : Nat}, (Value.slice none 0 0).ownBlock = some b → P := fun h => by simp [Value.ownBlock] at h
    refine ⟨hk, g, v', rfl, ⟨⟨hb, owns_lower ho (Nat.zero_le _), hl, World.ownsRow_nil _ _ _ _, by simp, OutAt.nil _ _, by simp, fun b hb => no hb, fun b hb => no hb, fun b hb => no hb, fun b hb => no hb, by simp⟩, ⟨hg, hb.lt⟩, fun b hb2 => ⟨owns_new ho b hb2, by obtain ⟨cs, hc⟩ := owns_spared ho b hb2; exact hc.lt⟩, by simp, ⟨List.Pairwise.nil, by simp⟩, fun b hb => hb.2⟩⟩
end
/-- what stands beside the two Queues: operations that were taken (K), each in lists of its own; a row kv of some of them (R) -/
structure Beside (b0 : Nat) (w : World) (kv : Value) (R K : List Ent) (Mq Mp : Nat → Prop) : Prop where
  dis : ∀ b, Mq b → ¬ Mp b
  lo : ∀ b, Mq b ∨ Mp b → b0 ≤ b
  row : w.ownsRow b0 42 11 kv R.length (entE.flat R)
  sub : R.Sublist K
  rowM : ∀ b, kv.ownBlock = some b → ¬ Mq b ∧ ¬ Mp b
  ents : ∀ e ∈ K, e.Own w ∧ (∀ b, e.dB = some b → b0 ≤ b ∧ ¬ Mq b ∧ ¬ Mp b) ∧ ∀ b, e.gB = some b → b0 ≤ b ∧ ¬ Mq b ∧ ¬ Mp b
  pair : K.Pairwise Apart
theorem Beside.swap {b0 : Nat} {w : World} {kv : Value} {R K : List Ent} {Mq Mp : Nat → Prop} (h : Beside b0 w kv R K Mq Mp) : Beside b0 w kv R K Mp Mq :=
  ⟨fun b hb hq => h.dis b hq hb, fun b hb => h.lo b hb.symm, h.row, h.sub, fun b hb => (h.rowM b hb).symm, fun e he => ⟨(h.ents e he).1, fun b hb => ⟨((h.ents e he).2.1 b hb).1, ((h.ents e he).2.1 b hb).2.symm⟩, fun b hb => ⟨((h.ents e he).2.2 b hb).1, ((h.ents e he).2.2 b hb).2.symm⟩⟩, h.pair⟩
/-- the two Queues at gq and gp, which say Cq and Cp; the taken ones K in the row kv -/
def Own3 (b0 : Nat) (w : World) (gq gp : Nat) (hold : Int) (Cq Cp : CQ) (kv : Value) (R K : List Ent) : Prop :=
  ∃ (sq sp : QS) (Mq Mp : Nat → Prop) (v1 w1 o1 v2 w2 o2 : Value), QBox w gq hold sq Mq v1 w1 o1 ∧ QBox w gp hold sp Mp v2 w2 o2 ∧ sq.cont = Cq ∧ sp.cont = Cp ∧ Beside b0 w kv R K Mq Mp
section
variable {b0 : Nat} {w w' : World} {gq gp : Nat} {hold : Int} {Cq Cp : CQ} {kv : Value} {R K : List Ent}
theorem Own3.swap (h : Own3 b0 w gq gp hold Cq Cp kv R K) : Own3 b0 w gp gq hold Cp Cq kv R K := by
  obtain ⟨sq, sp, Mq, Mp, v1, w1, o1, v2, w2, o2, h1, h2, h3, h4, h5⟩ := h
  exact ⟨sp, sq, Mp, Mq, v2, w2, o2, v1, w1, o1, h2, h1, h4, h3, h5.swap⟩
/-- what touches nothing of it -/
theorem Own3.keep (h : Own3 b0 w gq gp hold Cq Cp kv R K) (hk : Kept (fun _ => False) w w') : Own3 b0 w' gq gp hold Cq Cp kv R K := by
  obtain ⟨sq, sp, Mq, Mp, v1, w1, o1, v2, w2, o2, h1, h2, h3, h4, h5⟩ := h
  exact ⟨sq, sp, Mq, Mp, v1, w1, o1, v2, w2, o2, h1.keep hk (fun _ _ h => h), h2.keep hk (fun _ _ h => h), h3, h4, h5.dis, h5.lo, owns_keep h5.row hk (fun _ _ h => h), h5.sub, h5.rowM, fun e he => ⟨(h5.ents e he).1.stays hk (fun _ _ h => h) (fun _ _ h => h), (h5.ents e he).2⟩, h5.pair⟩
theorem Own3.offer (h : Own3 b0 w gq gp hold Cq Cp kv R K) (hb0 : b0 ≤ w.heap.size) {x : OpV} {D : List Dot} {G : List Run} {c : Int} (hD : SlAt dotE w x.deps.v D) (hG : SlAt runE w x.gone.v G) (hDl : D.length ≤ 1000000) (hGl : G.length ≤ 1000000) (hWl : Cq.W.length ≤ 10000) (hOl : Cq.O.length ≤ 100000)
    (hchk : ∀ w', Kept (fun _ => False) w w' → Calls Tryz.prog 37 #[.agg (opA x)] w' fun r w'' => r = .returned (.int .i64 c) ∧ Kept (fun _ => False) w' w'') (hok : c = 0 → x.dot.Ok) :
    Calls Tryz.prog 13 #[.pointer (some ⟨gq, 0, none⟩), .agg (opA x)] w fun r w' => ∃ a : Int, r = .returned (.tuple #[.int .i64 a, .int .i64 c]) ∧ (a, (coffer hold c Cq ({ x with deps := ⟨none, 0, 0⟩, gone := ⟨none, 0, 0⟩ }, D, G)).2) = coffer hold c Cq ({ x with deps := ⟨none, 0, 0⟩, gone := ⟨none, 0, 0⟩ }, D, G) ∧
      Own3 b0 w' gq gp hold (coffer hold c Cq ({ x with deps := ⟨none, 0, 0⟩, gone := ⟨none, 0, 0⟩ }, D, G)).2 Cp kv R K ∧ Kept (fun b => b0 ≤ b) w w' := by
  obtain ⟨sq, sp, Mq, Mp, v1, w1, o1, v2, w2, o2, h1, h2, rfl, h4, h5⟩ := h
  have e1 : sq.cont.W.length = sq.W.length := List.length_map _
  have e2 : sq.cont.O.length = sq.O.length := List.length_map _
  rw [e1] at hWl
  rw [e2] at hOl
  refine (h1.offer hD hG hDl hGl hWl hOl hchk hok).mono ?_
  rintro r w' ⟨a, d, z, s', vv', wv', ov', rfl, hoff, hq, hk⟩
  have hc := hoff.cont
  rw [cont_moved] at hc
  have hc2 : s'.cont = (coffer hold c sq.cont ({ x with deps := ⟨none, 0, 0⟩, gone := ⟨none, 0, 0⟩ }, D, G)).2 := congrArg Prod.snd hc
  have hout : ∀ b, b < w.heap.size → ¬ Mq b → ¬ grown Mq w w' b := fun b hb hn h => by
    rcases h with h | h
    · exact hn h
    · omega
  refine ⟨a, rfl, by rw [← hc], ⟨s', sp, grown Mq w w', Mp, vv', wv', ov', v2, w2, o2, hq, h2.keep hk (fun b hb hq => h5.dis b hq hb), hc2, h4, ?_, ?_, owns_keep h5.row hk (fun b hb => (h5.rowM b hb).1), h5.sub, ?_, ?_, h5.pair⟩, hk.mono (fun b _ hb => h5.lo b (.inl hb))⟩
  · rintro b (hb | hb) hp
    · exact h5.dis b hb hp
    · have := h2.lt b hp
      omega
  · rintro b ((hb | hb) | hb)
    · exact h5.lo b (.inl hb)
    · omega
    · exact h5.lo b (.inr hb)
  · intro b hb
    obtain ⟨cs, hcs⟩ := owns_spared h5.row b hb
    exact ⟨hout b hcs.lt (h5.rowM b hb).1, (h5.rowM b hb).2⟩
  · intro e he
    obtain ⟨ho, hd, hg⟩ := h5.ents e he
    refine ⟨ho.stays hk (fun b hb => (hd b hb).2.1) (fun b hb => (hg b hb).2.1), fun b hb => ⟨(hd b hb).1, hout b ?_ (hd b hb).2.1, (hd b hb).2.2⟩, fun b hb => ⟨(hg b hb).1, hout b ?_ (hg b hb).2.1, (hg b hb).2.2⟩⟩
    · obtain ⟨cs, hc⟩ := owns_spared ho.deps b hb; exact hc.lt
    · obtain ⟨cs, hc⟩ := owns_spared ho.gone b hb; exact hc.lt
/-- one is taken, or there is none -/
theorem Own3.take (h : Own3 b0 w gq gp hold Cq Cp kv R K) :
    Calls Tryz.prog 14 #[.pointer (some ⟨gq, 0, none⟩)] w fun r w' => (Cq.O = [] ∧ r = .returned (.tuple #[.agg zeroOp, .bool false]) ∧ Own3 b0 w' gq gp hold Cq Cp kv R K ∧ Kept (fun b => b = gq) w w' ∧ b0 ≤ gq) ∨
      ∃ e O', Cq.O = cont e :: O' ∧ r = .returned (.tuple #[.agg (opA e.v), .bool true]) ∧ Own3 b0 w' gq gp hold ⟨Cq.V, Cq.W, O'⟩ Cp kv R (K ++ [e]) ∧ Kept (fun b => b = gq) w w' ∧ b0 ≤ gq := by
  have h0 := h
  obtain ⟨sq, sp, Mq, Mp, v1, w1, o1, v2, w2, o2, h1, h2, rfl, h4, h5⟩ := h
  refine h1.take.mono ?_
  rintro r w' (⟨hn, rfl, hq, hk⟩ | ⟨e, O', ov', hO, rfl, hq, ho, hd, hg, hk⟩)
  · refine .inl ⟨?_, rfl, h0.keep hk, hk.mono (fun _ _ h => h.elim), h5.lo gq (.inl h1.own)⟩
    show sq.O.map cont = []
    rw [hn]
    rfl
  · right
    have hgq : Mq gq := h1.own
    have hS : ∀ b, ¬ Mq b → ¬ b = gq := fun b hn e => hn (e ▸ hgq)
    have heo : e ∈ sq.W ++ sq.O := List.mem_append.2 (.inr (by rw [hO]; exact List.mem_cons_self))
    refine ⟨e, O'.map cont, ?_, rfl, ⟨⟨sq.V, sq.W, O'⟩, sp, less Mq e, Mp, v1, w1, ov', v2, w2, o2, hq, h2.keep hk (fun b hb hq => h5.dis gq hgq (hq ▸ hb)), rfl, h4, ?_⟩, hk, h5.lo gq (.inl hgq)⟩
    · show sq.O.map cont = _
      rw [hO]
      rfl
    · refine ⟨fun b hb => h5.dis b hb.1, fun b hb => h5.lo b (hb.imp (fun h => h.1) id), owns_keep h5.row hk (fun b hb => hS b (h5.rowM b hb).1), h5.sub.trans (List.sublist_append_left _ _), fun b hb => ⟨fun h => (h5.rowM b hb).1 h.1, (h5.rowM b hb).2⟩, fun y hy => ?_, ?_⟩
      · rcases List.mem_append.1 hy with hy | hy
        · obtain ⟨yo, yd, yg⟩ := h5.ents y hy
          exact ⟨yo.stays hk (fun b hb => hS b (yd b hb).2.1) (fun b hb => hS b (yg b hb).2.1), fun b hb => ⟨(yd b hb).1, fun h => (yd b hb).2.1 h.1, (yd b hb).2.2⟩, fun b hb => ⟨(yg b hb).1, fun h => (yg b hb).2.1 h.1, (yg b hb).2.2⟩⟩
        · rw [List.mem_singleton.1 hy]
          exact ⟨ho, fun b hb => ⟨h5.lo b (.inl (hd b hb)), fun h => h.2.1 hb, h5.dis b (hd b hb)⟩, fun b hb => ⟨h5.lo b (.inl (hg b hb)), fun h => h.2.2 hb, h5.dis b (hg b hb)⟩⟩
      · refine List.pairwise_append.2 ⟨h5.pair, List.pairwise_singleton _ _, fun a ha b hb => ?_⟩
        rw [List.mem_singleton.1 hb]
        obtain ⟨_, yd, yg⟩ := h5.ents a ha
        exact ⟨fun x hx hx2 => (yd x hx).2.1 (hd x hx2), fun x hx hx2 => (yg x hx).2.1 (hg x hx2)⟩
theorem Own3.head (h : Own3 b0 w gq gp hold Cq Cp kv R K) : ∃ cs, Blk w gq 49 cs := by
  obtain ⟨sq, sp, Mq, Mp, v1, w1, o1, v2, w2, o2, h1, _⟩ := h
  exact ⟨_, h1.at_.head⟩
/-- a taken one is laid into the row -/
theorem Own3.appended (h : Own3 b0 w gq gp hold Cq Cp kv R K) {v' : Value} {e : Ent} (ho : w'.ownsRow b0 42 11 v' (R.length + 1) (entE.flat (R ++ [e]))) (hg : Grow1 w w' kv v') (hs : (R ++ [e]).Sublist K) :
    Own3 b0 w' gq gp hold Cq Cp v' (R ++ [e]) K ∧ Kept (fun b => b0 ≤ b) w w' := by
  obtain ⟨sq, sp, Mq, Mp, v1, w1, o1, v2, w2, o2, h1, h2, h3, h4, h5⟩ := h
  have hk := grow1_kept hg
  have nd : ∀ {b cs}, Blk w b 28 cs → ¬ kv.ownBlock = some b := fun {b cs} hb e => by obtain ⟨cs2, hc⟩ := owns_spared h5.row b e; exact hc.ne_ hb (of_decide_eq_true (by kernel_rfl)) rfl
  have nr : ∀ {b cs}, Blk w b 77 cs → ¬ kv.ownBlock = some b := fun {b cs} hb e => by obtain ⟨cs2, hc⟩ := owns_spared h5.row b e; exact hc.ne_ hb (of_decide_eq_true (by kernel_rfl)) rfl
  refine ⟨⟨sq, sp, Mq, Mp, v1, w1, o1, v2, w2, o2, h1.keep hk (fun b hb e => (h5.rowM b e).1 hb), h2.keep hk (fun b hb e => (h5.rowM b e).2 hb), h3, h4, h5.dis, h5.lo, by rw [List.length_append]; exact ho, hs, fun b hb => ?_, fun y hy => ?_, h5.pair⟩, hk.mono (fun b _ hb => owns_new h5.row b hb)⟩
  · rcases hg with ⟨e1, _⟩ | ⟨e1, _⟩
    · exact h5.rowM b (e1 ▸ hb)
    · rw [e1] at hb
      injection hb with hb
      exact ⟨fun h => by have := h1.lt b h; omega, fun h => by have := h2.lt b h; omega⟩
  · obtain ⟨yo, yd, yg⟩ := h5.ents y hy
    exact ⟨yo.stays hk (fun b hb => by obtain ⟨cs, hc⟩ := owns_spared yo.deps b hb; exact nd hc) (fun b hb => by obtain ⟨cs, hc⟩ := owns_spared yo.gone b hb; exact nr hc), yd, yg⟩
theorem Own3.own (h : Own3 b0 w gq gp hold Cq Cp kv R K) {e : Ent} (he : e ∈ K) : e.Own w := by
  obtain ⟨sq, sp, Mq, Mp, v1, w1, o1, v2, w2, o2, h1, h2, h3, h4, h5⟩ := h
  exact (h5.ents e he).1
/-- what Waits tells: the dots of those that wait, in order -/
def WaitsIs (C : CQ) (L : List Dot) : Prop := L.Perm (C.W.map (·.1.dot)) ∧ DSorted L
theorem WaitsIs.one {C : CQ} {L M : List Dot} (h : WaitsIs C L) (h' : WaitsIs C M) : L = M := by
  refine List.Perm.eq_of_pairwise (le := fun a b : Dot => ¬ b.lt a) (fun a b _ _ h3 h4 => ?_) h.2 h'.2 (h.1.trans h'.1.symm)
  have h3' : ¬ b.id.lt a.id := h3
  have h4' : ¬ a.id.lt b.id := h4
  unfold ID.lt at h3' h4'
  unfold Dot.id at h3' h4'
  rw [Dot.ext_iff]
  simp only at h3' h4'
  omega
theorem Own3.waits (h : Own3 b0 w gq gp hold Cq Cp kv R K) :
    Calls Tryz.prog 16 #[.pointer (some ⟨gq, 0, none⟩)] w fun r w' => ∃ v' L, r = .returned v' ∧ WaitsIs Cq L ∧ L.length ≤ 100000 ∧ w'.ownsRow w.heap.size 28 2 v' L.length (dotE.flat L) ∧ Kept (fun _ => False) w w' := by
  obtain ⟨sq, sp, Mq, Mp, v1, w1, o1, v2, w2, o2, h1, h2, rfl, h4, h5⟩ := h
  refine h1.waits.mono ?_
  rintro r w' ⟨v', L, rfl, hp, hs, ho, hk⟩
  have e : sq.cont.W.map (·.1.dot) = dotsOf sq.W := by show (sq.W.map cont).map _ = _; rw [List.map_map]; rfl
  exact ⟨v', L, rfl, ⟨by rw [e]; exact hp, hs⟩, by rw [hp.length_eq]; have := h1.at_.wlen; simpa [dotsOf] using this, ho, hk⟩
theorem Own3.vector (h : Own3 b0 w gq gp hold Cq Cp kv R K) :
    Calls Tryz.prog 18 #[.pointer (some ⟨gq, 0, none⟩)] w fun r w' => ∃ v', r = .returned v' ∧ Cq.V.length ≤ 1000 ∧ w'.ownsRow w.heap.size 28 2 v' Cq.V.length (dotE.flat Cq.V) ∧ Kept (fun _ => False) w w' := by
  obtain ⟨sq, sp, Mq, Mp, v1, w1, o1, v2, w2, o2, h1, h2, rfl, h4, h5⟩ := h
  refine h1.vector.mono ?_
  rintro r w' ⟨v', rfl, ho, hk⟩
  exact ⟨v', rfl, h1.at_.vlen, ho, hk⟩
end
end Go.Proofs.YtaaeomapbigfgaaGreat
