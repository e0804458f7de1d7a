/- A queue by the contents of its operations: the same offers leave the same contents. The document's Queue in memory. hearsayref7.Says. hearsayref7.Of, Get, Sum, Same. -/
import Derived.Test.YtaaeomapbigfgaaGreatU10
import Derived.Test.YtaaeomapbigfgaaGreatU9
import Derived.Test.YtaaeomapbigfgaaGreatU4
namespace Go.Proofs.YtaaeomapbigfgaaGreat
open Go.Proofs.YtaaeomapbigfgaaGreat.St
/-- what an operation says, without where its lists lie -/
abbrev Cont := OpV × List Dot × List Run
def cont (e : Ent) : Cont := ({ e.v with deps := ⟨none, 0, 0⟩, gone := ⟨none, 0, 0⟩ }, e.D, e.G)
def ckey (c : Cont) : Key := (c.1.dot, c.2.1)
theorem ckey_cont (e : Ent) : ckey (cont e) = key e := rfl
theorem cont_moved (x : OpV) (d z : Sl) (D : List Dot) (G : List Run) : cont ⟨{ x with deps := d, gone := z }, D, G⟩ = ({ x with deps := ⟨none, 0, 0⟩, gone := ⟨none, 0, 0⟩ }, D, G) := rfl
structure CQ where
  V : List Dot
  W : List Cont
  O : List Cont
def QS.cont (s : QS) : CQ := ⟨s.V, s.W.map Go.Proofs.YtaaeomapbigfgaaGreat.cont, s.O.map Go.Proofs.YtaaeomapbigfgaaGreat.cont⟩
def cgr (W : List Cont) : Nat → Nat
  | 0 => 0
  | n + 1 => match W[n]?, W[cgr W n]? with
    | some e, some f => if 0 < farV e.1.dot f.1.dot e.2.1 f.2.1 then n else cgr W n
    | _, _ => cgr W n
def cdrain : Nat → CQ → CQ
  | 0, s => s
  | n + 1, s => match s.W.findIdx? (fun k => decide (Ent.can s.V k.1.dot k.2.1)) with
    | none => s
    | some i => match s.W[i]? with
      | none => s
      | some e => cdrain n ⟨addV s.V e.1.dot, s.W.eraseIdx i, s.O ++ [e]⟩
def coffer (hold c : Int) (s : CQ) (e : Cont) : Int × CQ :=
  if c ≠ 0 then (0, s) else
  if hasV s.V e.1.dot ∨ (s.W.any fun k => decide (k.1.dot = e.1.dot)) = true then (3, s) else
  if Ent.can s.V e.1.dot e.2.1 then (1, cdrain s.W.length ⟨addV s.V e.1.dot, s.W, s.O ++ [e]⟩) else
  if (s.W.length : Int) + 1 ≤ hold then (2, ⟨s.V, s.W ++ [e], s.O⟩) else
  (match (s.W ++ [e])[cgr (s.W ++ [e]) (s.W.length + 1)]? with
    | some f => (if f.1.dot = e.1.dot then 4 else 2)
    | none => 2, ⟨s.V, (s.W ++ [e]).eraseIdx (cgr (s.W ++ [e]) (s.W.length + 1)), s.O⟩)
theorem grI_cont (W : List Ent) : ∀ n, grI W n = cgr (W.map cont) n
  | 0 => rfl
  | n + 1 => by
    unfold grI cgr
    rw [grI_cont W n, List.getElem?_map, List.getElem?_map]
    cases h1 : W[n]? with
    | none => rfl
    | some e =>
      cases h2 : W[cgr (W.map cont) n]? with
      | none => rfl
      | some f => rfl
theorem drain_cont : ∀ (n : Nat) (s : QS), (drain n s).cont = cdrain n s.cont
  | 0, _ => rfl
  | n + 1, s => by
    unfold drain cdrain
    have hf : s.cont.W.findIdx? (fun k => decide (Ent.can s.cont.V k.1.dot k.2.1)) = s.W.findIdx? (Ent.canB s.V) := by
      show (s.W.map cont).findIdx? _ = _
      rw [List.findIdx?_map]
      rfl
    rw [hf]
    cases h1 : s.W.findIdx? (Ent.canB s.V) with
    | none => rfl
    | some i =>
      have hg : s.cont.W[i]? = s.W[i]?.map cont := List.getElem?_map
      cases h2 : s.W[i]? with
      | none => simp only [hg, h2]; rfl
      | some e =>
        simp only [hg, h2, Option.map_some]
        rw [drain_cont n (s.take i e)]
        congr 1
        show CQ.mk _ ((s.W.eraseIdx i).map cont) ((s.O ++ [e]).map cont) = CQ.mk _ ((s.W.map cont).eraseIdx i) (s.O.map cont ++ [cont e])
        rw [map_erase, List.map_append]
        rfl
theorem has_cont (W : List Ent) (d : Dot) : hasDot W d = (W.map cont).any fun k => decide (k.1.dot = d) := by
  unfold hasDot
  rw [List.any_map]
  rfl
theorem OfferIs.cont {hold c a : Int} {s s' : QS} {e : Ent} (h : OfferIs hold s c e a s') : (a, s'.cont) = coffer hold c s.cont (Go.Proofs.YtaaeomapbigfgaaGreat.cont e) := by
  unfold coffer
  have e0 : (s.cont.W.any fun k => decide (k.1.dot = (Go.Proofs.YtaaeomapbigfgaaGreat.cont e).1.dot)) = hasDot s.W e.v.dot := (has_cont s.W e.v.dot).symm
  have e1 : s.cont.W.length = s.W.length := List.length_map _
  have e2 : s.cont.W ++ [Go.Proofs.YtaaeomapbigfgaaGreat.cont e] = (s.W ++ [e]).map Go.Proofs.YtaaeomapbigfgaaGreat.cont := by rw [List.map_append]; rfl
  rw [e0, e1, e2, ← grI_cont]
  rcases h with ⟨h, rfl, rfl⟩ | ⟨h0, hhad, rfl, rfl⟩ | ⟨h0, hnot, hc, rfl, rfl⟩ | ⟨h0, hnot, hc, hr, rfl, rfl⟩ | ⟨h0, hnot, hc, hr, f, hf, rfl, rfl⟩
  · rw [if_pos h]
  · rw [if_neg (show ¬ c ≠ 0 from fun h => h h0), if_pos (show hasV s'.cont.V (Go.Proofs.YtaaeomapbigfgaaGreat.cont e).1.dot ∨ _ from hhad)]
  · rw [if_neg (show ¬ c ≠ 0 from fun h => h h0), if_neg (show ¬ (hasV s.cont.V (Go.Proofs.YtaaeomapbigfgaaGreat.cont e).1.dot ∨ _) from hnot), if_pos (show Ent.can s.cont.V (Go.Proofs.YtaaeomapbigfgaaGreat.cont e).1.dot (Go.Proofs.YtaaeomapbigfgaaGreat.cont e).2.1 from hc), drain_cont]
    congr 2
    show CQ.mk _ _ ((s.O ++ [e]).map Go.Proofs.YtaaeomapbigfgaaGreat.cont) = _
    rw [List.map_append]
    rfl
  · rw [if_neg (show ¬ c ≠ 0 from fun h => h h0), if_neg (show ¬ (hasV s.cont.V (Go.Proofs.YtaaeomapbigfgaaGreat.cont e).1.dot ∨ _) from hnot), if_neg (show ¬ Ent.can s.cont.V (Go.Proofs.YtaaeomapbigfgaaGreat.cont e).1.dot (Go.Proofs.YtaaeomapbigfgaaGreat.cont e).2.1 from hc), if_pos hr]
    congr 1
  · rw [if_neg (show ¬ c ≠ 0 from fun h => h h0), if_neg (show ¬ (hasV s.cont.V (Go.Proofs.YtaaeomapbigfgaaGreat.cont e).1.dot ∨ _) from hnot), if_neg (show ¬ Ent.can s.cont.V (Go.Proofs.YtaaeomapbigfgaaGreat.cont e).1.dot (Go.Proofs.YtaaeomapbigfgaaGreat.cont e).2.1 from hc), if_neg (show ¬ ((s.W.length : Int) + 1 ≤ hold) by omega), List.getElem?_map, hf, map_erase]
    rfl
end Go.Proofs.YtaaeomapbigfgaaGreat
namespace Go.Proofs.YtaaeomapbigfgaaGreat
open Go.RowKit Go.Proofs.YtaaeomapbigfgaaGreat.St
/-- the document's Queue at g; its rows of operations lie in F; P holds of its operations -/
structure RAt (P : Ent → Prop) (w : World) (g : Nat) (hold : Int) (s : QS) (F : Nat → Prop) (vv wv ov : Value) : Prop where
  head : Blk w g 51 #[.int .i64 hold, vv, wv, ov]
  vec : w.ownsRow 0 28 2 vv s.V.length (dotE.flat s.V)
  vlen : s.V.length ≤ 1000
  wait : w.ownsRow 0 42 11 wv s.W.length (entE.flat s.W)
  wlen : s.W.length ≤ 100000
  out : OutAt entE w 42 ov s.O
  olen : s.O.length ≤ 500000
  wF : ∀ b, wv.ownBlock = some b → F b
  oF : ∀ b, ov.ownBlock = some b → F b
  apart : ∀ b, wv.ownBlock = some b → ov.ownBlock ≠ some b
  oB : ∀ b, ov.ownBlock = some b → b < w.heap.size
  ents : ∀ e ∈ s.W ++ s.O, P e
section
variable {P : Ent → Prop} {w w' : World} {g : Nat} {hold : Int} {s : QS} {F F' : Nat → Prop} {vv wv ov : Value} {e : Ent}
theorem RAt.wider (h : RAt P w g hold s F vv wv ov) (hf : ∀ b, F b → F' b) : RAt P w g hold s F' vv wv ov :=
  { h with wF := fun b hb => hf b (h.wF b hb), oF := fun b hb => hf b (h.oF b hb) }
theorem RAt.kept (h : RAt P w g hold s F vv wv ov) (hk : Kept (fun _ => False) w w') : RAt P w' g hold s F vv wv ov :=
  ⟨hk.blk (fun h => h) h.head, owns_keep h.vec hk (fun _ _ h => h), h.vlen, owns_keep h.wait hk (fun _ _ h => h), h.wlen, h.out.keep hk (fun _ _ _ h => h), h.olen, h.wF, h.oF, h.apart, fun b hb => Nat.lt_of_lt_of_le (h.oB b hb) hk.size, h.ents⟩
theorem RAt.wOp (h : RAt P w g hold s F vv wv ov) : ∀ b, wv.ownBlock = some b → ∃ cs, Blk w b 42 cs := owns_spared h.wait
/-- the row of those that wait gone on -/
theorem RAt.pushed (h : RAt P w g hold s F vv wv ov) (he : P e) {v' : Value} (ho : w'.ownsRow 0 42 11 v' (s.W.length + 1) (entE.flat (s.W ++ [e]))) (hg : Grow1 w w' wv v') (hl : s.W.length + 1 ≤ 100000) :
    RAt P (w'.setCell ⟨g, 2, none⟩ v') g hold ⟨s.V, s.W ++ [e], s.O⟩ (fun b => F b ∨ w.heap.size ≤ b) vv v' ov ∧ Kept (QF w g F) w (w'.setCell ⟨g, 2, none⟩ v') := by
  have hk := grow1_kept hg
  have hgw : ¬ wv.ownBlock = some g := fun hb => by obtain ⟨cs, hc⟩ := h.wOp g hb; exact h.head.ne_ hc (of_decide_eq_true (by kernel_rfl)) rfl
  have h1 : Blk w' g 51 #[.int .i64 hold, vv, wv, ov] := hk.blk hgw h.head
  have kS : Kept (fun x => x = g) w' (w'.setCell ⟨g, 2, none⟩ v') := (Kept.refl (fun x => x = g) w').setCell (p := ⟨g, 2, none⟩) (fun _ => rfl) _
  have kA : Kept (QF w g F) w (w'.setCell ⟨g, 2, none⟩ v') := (hk.mono (S' := QF w g F) (fun b _ hb => .inr ⟨h.wF b hb, h.wOp b hb⟩)).trans kS (fun _ _ e => .inl e)
  have v1 := owns_keep h.vec hk (fun b hb e => by obtain ⟨cs, hc⟩ := owns_spared h.vec b hb; obtain ⟨cs2, hc2⟩ := h.wOp b e; exact hc.ne_ hc2 (of_decide_eq_true (by kernel_rfl)) rfl)
  have o1 := h.out.keep hk (fun b hb _ e => h.apart b e hb)
  refine ⟨⟨h1.set_ 2 v', owns_keep v1 kS (owns_far v1 h1 (of_decide_eq_true (by kernel_rfl))), h.vlen, ?_, by simpa using hl, o1.keep kS (fun b _ ⟨cs, hc⟩ e => h1.ne_ hc (of_decide_eq_true (by kernel_rfl)) e.symm), h.olen, ?_, fun b hb => .inl (h.oF b hb), ?_, fun b hb => Nat.lt_of_lt_of_le (h.oB b hb) (kA.size), ?_⟩, kA⟩
  · have := owns_keep ho kS (owns_far ho h1 (of_decide_eq_true (by kernel_rfl)))
    simpa using this
  · intro b hb
    rcases hg with ⟨e1, _⟩ | ⟨e1, _⟩
    · exact .inl (h.wF b (e1 ▸ hb))
    · rw [e1] at hb; injection hb with hb; exact .inr (by omega)
  · intro b hb hb2
    rcases hg with ⟨e1, _⟩ | ⟨e1, _⟩
    · exact h.apart b (e1 ▸ hb) hb2
    · rw [e1] at hb; injection hb with hb; have := h.oB b hb2; omega
  · intro y hy
    have hy : y ∈ (s.W ++ [e]) ++ s.O := hy
    rcases List.mem_append.1 hy with hy | hy
    · rcases List.mem_append.1 hy with hy | hy
      · exact h.ents y (List.mem_append.2 (.inl hy))
      · rw [List.mem_singleton.1 hy]; exact he
    · exact h.ents y (List.mem_append.2 (.inr hy))
/-- another row of those that wait, made behind w -/
theorem RAt.rewait (h : RAt P w g hold s F vv wv ov) {v' : Value} {W' : List Ent} (hP : ∀ e ∈ W', P e) (ho : w'.ownsRow w.heap.size 42 11 v' W'.length (entE.flat W')) (hk : Kept (fun _ => False) w w') (hl : W'.length ≤ 100000) :
    RAt P (w'.setCell ⟨g, 2, none⟩ v') g hold ⟨s.V, W', s.O⟩ (fun b => F b ∨ w.heap.size ≤ b) vv v' ov ∧ Kept (QF w g F) w (w'.setCell ⟨g, 2, none⟩ v') := by
  have h1 : Blk w' g 51 #[.int .i64 hold, vv, wv, ov] := hk.blk (fun h => h) h.head
  have kS : Kept (fun x => x = g) w' (w'.setCell ⟨g, 2, none⟩ v') := (Kept.refl (fun x => x = g) w').setCell (p := ⟨g, 2, none⟩) (fun _ => rfl) _
  have kA : Kept (QF w g F) w (w'.setCell ⟨g, 2, none⟩ v') := (hk.mono (S' := QF w g F) (fun b _ hb => hb.elim)).trans kS (fun _ _ e => .inl e)
  have v1 := owns_keep h.vec hk (fun b hb e => e)
  have o1 := h.out.keep hk (fun b hb _ e => e)
  refine ⟨⟨h1.set_ 2 v', owns_keep v1 kS (owns_far v1 h1 (of_decide_eq_true (by kernel_rfl))), h.vlen, ?_, hl, o1.keep kS (fun b _ ⟨cs, hc⟩ e => h1.ne_ hc (of_decide_eq_true (by kernel_rfl)) e.symm), h.olen, ?_, fun b hb => .inl (h.oF b hb), ?_, fun b hb => Nat.lt_of_lt_of_le (h.oB b hb) (kA.size), ?_⟩, kA⟩
  · exact owns_keep (owns_lower ho (Nat.zero_le _)) kS (owns_far ho h1 (of_decide_eq_true (by kernel_rfl)))
  · intro b hb
    exact .inr (owns_new ho b hb)
  · intro b hb hb2
    have := owns_new ho b hb
    have := h.oB b hb2
    omega
  · intro y hy
    have hy : y ∈ W' ++ s.O := hy
    rcases List.mem_append.1 hy with hy | hy
    · exact hP y hy
    · exact h.ents y (List.mem_append.2 (.inr hy))
/-- one was delivered -/
theorem RAt.delivered (h : RAt P w g hold s F vv wv ov) (he : P e) {v' ov' : Value} (h1 : Blk w' g 51 #[.int .i64 hold, v', wv, ov']) (hv : w'.ownsRow w.heap.size 28 2 v' (addV s.V e.v.dot).length (dotE.flat (addV s.V e.v.dot)))
    (hO : OutAt entE w' 42 ov' (s.O ++ [e])) (hb : ov'.ownBlock = ov.ownBlock ∨ ∃ b, ov'.ownBlock = some b ∧ w.heap.size ≤ b) (hk : Kept (fun x => x = g ∨ ov.ownBlock = some x ∧ ∃ cs, Blk w x 42 cs) w w') (hl : s.O.length + 1 ≤ 500000) :
    RAt P w' g hold ⟨addV s.V e.v.dot, s.W, s.O ++ [e]⟩ (fun b => F b ∨ w.heap.size ≤ b) v' wv ov' ∧ Kept (QF w g F) w w' := by
  have kA : Kept (QF w g F) w w' := hk.mono (fun x _ hx => by rcases hx with rfl | ⟨hx, hc⟩; exact .inl rfl; exact .inr ⟨h.oF _ hx, hc⟩)
  refine ⟨⟨h1, owns_lower hv (Nat.zero_le _), ?_, owns_keep h.wait hk (fun x hx e => ?_), h.wlen, hO, by simpa using hl, fun b hb => .inl (h.wF b hb), ?_, ?_, OutAt.lt_of hO (by simp), fun y hy => ?_⟩, kA⟩
  · show (addV s.V e.v.dot).length ≤ 1000
    have := vecOf_len (fun i => if (i : Int) = e.v.dot.site then e.v.dot.seq else says s.V i) 17
    unfold addV
    omega
  · rcases e with rfl | ⟨e, _⟩
    · obtain ⟨cs, hc⟩ := owns_spared h.wait _ hx
      exact h.head.ne_ hc (of_decide_eq_true (by kernel_rfl)) rfl
    · exact h.apart x hx e
  · intro b hb2
    rcases hb with hb | ⟨b2, hb, hlt⟩
    · exact .inl (h.oF b (hb ▸ hb2))
    · rw [hb] at hb2; injection hb2 with hb2; exact .inr (by omega)
  · intro b hw hb2
    rcases hb with hb | ⟨b2, hb, hlt⟩
    · exact h.apart b hw (hb ▸ hb2)
    · rw [hb] at hb2
      injection hb2 with hb2
      obtain ⟨cs, hc⟩ := h.wOp b hw
      have := hc.lt
      omega
  · have hy : y ∈ s.W ++ (s.O ++ [e]) := hy
    rw [← List.append_assoc] at hy
    rcases List.mem_append.1 hy with hy | hy
    · exact h.ents y hy
    · rw [List.mem_singleton.1 hy]; exact he
end
end Go.Proofs.YtaaeomapbigfgaaGreat
namespace Go.Proofs.YtaaeomapbigfgaaGreat
open Go.RowKit Go.Proofs.YtaaeomapbigfgaaGreat.St
theorem sayS_low {f : Nat → Int} {k : Nat} {q : Int} (h : ¬ f k < q) : sayS f ⟨k, q⟩ = f := by
  funext i
  unfold sayS
  by_cases hi : (⟨k, q⟩ : Dot).Ok ∧ (⟨k, q⟩ : Dot).site = i
  · rw [if_pos hi]
    have e : (k : Int) = i := hi.2
    obtain rfl : k = i := by omega
    exact if_neg h
  · rw [if_neg hi]
theorem sayS_high {f : Nat → Int} {k : Nat} {q : Int} (h : (⟨k, q⟩ : Dot).Ok) (hlt : f k < q) : (cells f).setIfInBounds k (.int .i64 q) = cells (sayS f ⟨k, q⟩) := by
  rw [← says_cells h, if_pos hlt]
set_option maxRecDepth 100000 in
set_option maxHeartbeats 4000000 in
theorem rsays_grew {w : World} {v : Value} {L : List Dot} (h : SlAt dotE w v L) (hb : L.length ≤ 1000000000) : Calls Tryz.prog 51 #[v] w fun e w' => e = .returned (.agg (cells (says L))) ∧ Grew w w' := by
  obtain ⟨a, c, rfl, _, _⟩ := h.sl
  have HS := Lib.hid h
  clear h
  go_enter Tryz.func51, Tryz.ntmps51
  go_wp2_with fail
  go_loopw [4] (fun iv wr => ∃ n : Nat, iv = .int .i64 n ∧ n ≤ L.length ∧ Blk wr (w.heap.size + 1) 89 (cells (says (L.take n))) ∧ Blk wr w.heap.size 89 (cells fun _ => 0) ∧ Grew w wr) (fun iv _ => L.length - (intOf iv).toNat)
  case atStart =>
    refine ⟨0, rfl, Nat.zero_le _, ?_, (Blk.new _ _ _).alloc _, ((Grew.refl _).alloc _).alloc _⟩
    have := Blk.new (w.alloc (.cells (cells fun _ => 0) 89)) 89 (cells fun _ => 0)
    rw [show (w.alloc (.cells (cells fun _ => 0) 89)).heap.size = w.heap.size + 1 by simp] at this
    exact this
  case round =>
    obtain ⟨n, rfl, hn, hs, hr, hk⟩ := hrel
    have hn0 : (0 : Int) ≤ n := by omega
    by_cases hlt : n < L.length
    case neg =>
      have hnl : ¬ (n : Int) < L.length := by omega
      rw [List.take_of_length_le (by omega)] at hs
      have HS' := Lib.hid hs
      have HR := Lib.hid hr
      have x3 := Lib.hid (hk.setRow (g := w.heap.size) (Nat.le_refl _) (cells (says L)))
      clear hs hr hk
      go_wp2_with (first
        | (refine wpList_load_row rfl 89 _ rfl (w.heap.size + 1) rfl 89 _ (0, 0) _ HS'.out Tryz.underlying89 rfl (by rw [cells_size]; kernel_rfl) ?_)
        | (refine wpList_store_row rfl 89 _ _ rfl w.heap.size (cells (says L)) rfl rfl 89 _ HR.out (by rw [cells_size]; kernel_rfl) (by rw [cells_size, cells_size]) (cells_one _) ?_))
      exact bodyPost_ret (Blk.result rfl _ (HR.out.row _) rfl Tryz.underlying89 rfl (by rw [cells_size]; kernel_rfl)) rfl ⟨rfl, x3.out⟩
    case pos =>
      have hltI : (n : Int) < L.length := by omega
      obtain ⟨d, hd⟩ := get_of_lt hlt
      obtain ⟨g, o, c', hv, hg, hc⟩ := SlAt.dot (HS.out.kept hk.kept) (by omega)
      cases hv
      obtain ⟨c0, c1⟩ := hc n d hd
      have hsay := Lib.hid (says_take hd)
      generalize says (L.take n) = f at *
      obtain ⟨ds, dq⟩ := d
      simp only at c0 c1
      have K0 := Lib.hid (hk.alloc (.cells #[.int .i64 ds, .int .i64 dq] 28))
      have FS := Lib.hid (hs.alloc (.cells #[.int .i64 ds, .int .i64 dq] 28))
      have FR := Lib.hid (hr.alloc (.cells #[.int .i64 ds, .int .i64 dq] 28))
      have BX := Blk.new wr 28 #[.int .i64 ds, .int .i64 dq]
      have x0 : (wr.alloc (.cells #[.int .i64 ds, .int .i64 dq] 28)).cell? ⟨wr.heap.size, 0, none⟩ = some (.int .i64 ds) := BX.cell' (i := 0) rfl
      have x1 : (wr.alloc (.cells #[.int .i64 ds, .int .i64 dq] 28)).cell? ⟨wr.heap.size, 1, none⟩ = some (.int .i64 dq) := BX.cell' (i := 1) rfl
      clear hc hd hs hr hk BX
      by_cases hok : (⟨ds, dq⟩ : Dot).Ok
      case neg =>
        have S1 : Hid (says (L.take (n + 1)) = f) := Lib.hid (by rw [hsay.out, sayS_none hok])
        clear hsay
        by_cases h1 : 1 ≤ ds
        by_cases h2 : ds ≤ 16
        by_cases h3 : 1 ≤ dq
        by_cases h4 : dq ≤ 2147483647
        · exact absurd ⟨h1, h2, h3, h4⟩ hok
        all_goals
          clear hok
          try (have e1 := decide_eq_true h1)
          try (have e2 := decide_eq_true h2)
          try (have e3 := decide_eq_true h3)
          try (have e1 := decide_eq_false h1)
          try (have e2 := decide_eq_false h2)
          try (have e3 := decide_eq_false h3)
          try (have e4 := decide_eq_false h4)
          go_wp2_with fail
          go_region
          go_wp2_with fail
          go_roundw
          focus
            exact ⟨n + 1, by go_num, by omega, by rw [S1.out]; exact FS.out.drewN 1, FR.out.drewN 1, K0.out.drewN 1⟩
          focus
            simp [intOf] <;> omega
      case pos =>
        have hok' := hok
        unfold Dot.Ok at hok'
        simp only at hok'
        obtain ⟨k, rfl⟩ : ∃ k : Nat, ds = k := ⟨ds.toNat, by omega⟩
        have h1 := hok'.1
        have h2 := hok'.2.1
        have h3 := hok'.2.2.1
        have h4 := hok'.2.2.2
        have hkl : k < 17 := by omega
        have hkI : (k : Int) < 17 := by omega
        have hk0 : (0 : Int) ≤ k := by omega
        have s0 := FS.out.cell' (cells_get f hkl)
        have fz := FS.out.frozen k
        have OK := Lib.hid hok
        clear hok' hok
        by_cases h5 : f k < dq
        · have S1 := Lib.hid (sayS_high OK.out h5)
          go_wp2_with fail
          have hsz := FS.out.lt
          go_region
          go_wp2_with fail
          go_roundw
          case rel =>
            refine ⟨n + 1, by go_num, by omega, ?_, (FR.out.far (by show w.heap.size ≠ w.heap.size + 1; omega) _).drewN 1, (K0.out.setCell (by show w.heap.size ≤ w.heap.size + 1; omega) _).drewN 1⟩
            rw [hsay.out, ← S1.out]
            exact (FS.out.set_ k _).drewN 1
          case measure => simp [intOf] <;> omega
        · have S1 : Hid (says (L.take (n + 1)) = f) := Lib.hid (by rw [hsay.out, sayS_low h5])
          clear hsay
          go_wp2_with fail
          go_region
          go_wp2_with fail
          go_roundw
          case rel => exact ⟨n + 1, by go_num, by omega, by rw [S1.out]; exact FS.out.drewN 1, FR.out.drewN 1, K0.out.drewN 1⟩
          case measure => simp [intOf] <;> omega
theorem rsays_any {w : World} {v : Value} {L : List Dot} (h : SlAt dotE w v L) (hb : L.length ≤ 1000000000) : Calls Tryz.prog 51 #[v] w fun e w' => e = .returned (.agg (cells (says L))) ∧ Kept (fun _ => False) w w' := (rsays_grew h hb).mono fun _ _ ⟨he, hg⟩ => ⟨he, hg.kept⟩
end Go.Proofs.YtaaeomapbigfgaaGreat
namespace Go.Proofs.YtaaeomapbigfgaaGreat
open Go.RowKit Go.Proofs.YtaaeomapbigfgaaGreat.St
theorem run_index_row (f : Nat → Int) {n : Nat} (h : n < 17) (w : World) : (Instr.index 89 (.agg (cells f)) (.int .i64 n)).run Tryz.prog w = .ok (.int .i64 (f n)) w := by
  have h1 := cells_get f h
  have hI : (n : Int) < 17 := by omega
  simp [Instr.index, asIntOf, run_underlying Tryz.underlying89, part, isAgg, run_underlying Tryz.underlying3, Tryz.sizeOf3, h, h1, go_sem]
theorem rget_grew {w : World} {v : Value} {L : List Dot} (h : SlAt dotE w v L) (hb : L.length ≤ 1000000000) (s : Int) : Calls Tryz.prog 21 #[v, .int .i64 s] w fun e w' => e = .returned (.int .i64 (getV L s)) ∧ Grew w w' := by
  have ho := rsays_grew h hb
  unfold getV
  by_cases hi : isSite s
  · rw [if_pos hi]
    unfold isSite at hi
    obtain ⟨k, rfl⟩ : ∃ k : Nat, s = k := ⟨s.toNat, by omega⟩
    have h1 := hi.1
    have h2 := hi.2
    have hix := run_index_row (says L) (n := k) (by omega)
    rw [Int.toNat_natCast]
    clear hi
    go_enter Tryz.func21, Tryz.ntmps21
    go_wp2_with (go_at_call 51; refine ho.mono ?_; rintro e w1 ⟨rfl, hk1⟩)
    go_ret
    exact ⟨rfl, hk1⟩
  · rw [if_neg hi]
    by_cases h1 : 1 ≤ s
    · have h2 : ¬ s ≤ 16 := fun h => hi ⟨h1, h⟩
      clear hi
      go_enter Tryz.func21, Tryz.ntmps21
      go_wp2_with fail
      go_ret
      exact ⟨rfl, Grew.refl _⟩
    · clear hi
      go_enter Tryz.func21, Tryz.ntmps21
      go_wp2_with fail
      go_ret
      exact ⟨rfl, Grew.refl _⟩
theorem rget_any {w : World} {v : Value} {L : List Dot} (h : SlAt dotE w v L) (hb : L.length ≤ 1000000000) (s : Int) : Calls Tryz.prog 21 #[v, .int .i64 s] w fun e w' => e = .returned (.int .i64 (getV L s)) ∧ Kept (fun _ => False) w w' := (rget_grew h hb s).mono fun _ _ ⟨he, hg⟩ => ⟨he, hg.kept⟩
set_option maxRecDepth 100000 in
set_option maxHeartbeats 4000000 in
theorem rsum_any {w : World} {v : Value} {L : List Dot} (h : SlAt dotE w v L) (hb : L.length ≤ 1000000000) : Calls Tryz.prog 28 #[v] w fun e w' => e = .returned (.int .i64 (sumV L)) ∧ Kept (fun _ => False) w w' := by
  have ho := rsays_any h hb
  go_enter Tryz.func28, Tryz.ntmps28
  go_wp2_with (first
    | (refine wpList_store_row rfl 89 _ _ rfl w1.heap.size (cells (says L)) rfl rfl 89 zero17 P1.out (by rw [cells_size]; kernel_rfl) (by rw [cells_size]; rfl) (cells_one _) ?_)
    | (go_at_call 51; refine ho.mono ?_; rintro e w1 ⟨rfl, hk1⟩; have P1 := Lib.hid (Blk.new w1 89 zero17)))
  have B1 := P1.out.row (cells (says L))
  have K1 := Lib.hid ((hk1.alloc (.cells zero17 89)).setRow (g := w1.heap.size) (fun h => by have := hk1.size; omega) (cells (says L)))
  clear P1 hk1 ho
  generalize (w1.alloc (.cells zero17 89)).setRow w1.heap.size (cells (says L)) = w2 at *
  have B2 := Lib.hid B1
  clear B1
  go_loopw [4, 5] (fun nv iv wr => ∃ n : Nat, iv = .int .i64 n ∧ n ≤ 17 ∧ nv = .int .i64 (sumTo (says L) n) ∧ wr = w2) (fun _ iv _ => 17 - (intOf iv).toNat)
  case atStart => exact ⟨0, rfl, by decide, rfl, rfl⟩
  case round =>
    obtain ⟨n, rfl, hn, rfl, rfl⟩ := hrel
    have hn0 : (0 : Int) ≤ n := by omega
    by_cases hlt : n < 17
    case neg =>
      obtain rfl : n = 17 := by omega
      go_wp2_with fail
      go_ret
      exact ⟨rfl, K1.out⟩
    case pos =>
      have hI : (n : Int) < 17 := by omega
      have c0 := B2.out.cell' (cells_get (says L) hlt)
      have b1 := sumTo_bd (says L) (says_bd L) n
      have b2 := says_bd L n
      have hw : IntKind.i64.wrap (sumTo (says L) n + says L n) = sumTo (says L) (n + 1) := IntWalk.i64_in _ (by omega)
      clear b1 b2
      go_wp2_with fail
      go_roundw
      case rel => exact ⟨n + 1, by go_num, by omega, rfl, trivial⟩
      case measure => simp [intOf] <;> omega
theorem vecOf_from1 {f : Nat → Int} (h0 : ¬ 0 < f 0) : vecOf f 1 = [] := by
  rw [vecOf_succ, if_neg h0]; rfl
set_option maxRecDepth 100000 in
set_option maxHeartbeats 4000000 in
theorem rof_any (f : Nat → Int) (h0 : ¬ 0 < f 0) (w : World) : Calls Tryz.prog 52 #[.agg (cells f)] w fun e w' => ∃ v', e = .returned v' ∧ w'.ownsRow w.heap.size 28 2 v' (vecOf f 17).length (dotE.flat (vecOf f 17)) ∧ Kept (fun _ => False) w w' := by
  have B0 := Lib.hid (Blk.new w 89 (cells f))
  have K0 : Hid (Kept (fun _ => False) w (w.alloc (.cells (cells f) 89))) := Lib.hid ((Kept.refl _ _).alloc _)
  have V1 := Lib.hid (vecOf_from1 h0)
  clear h0
  go_enter Tryz.func52, Tryz.ntmps52
  go_wp2_with fail
  go_loopw [3, 4] (fun vv iv wr => ∃ n : Nat, iv = .int .i64 n ∧ 1 ≤ n ∧ n ≤ 17 ∧ wr.ownsRow w.heap.size 28 dotE.k vv (vecOf f n).length (dotE.flat (vecOf f n)) ∧ Blk wr w.heap.size 89 (cells f) ∧ Kept (fun _ => False) w wr) (fun _ iv _ => 17 - (intOf iv).toNat)
  case atStart => exact ⟨1, rfl, by decide, by decide, by rw [V1.out]; exact World.ownsRow_nil _ _ _ _, B0.out, K0.out⟩
  case round =>
    clear B0 K0
    obtain ⟨n, rfl, hn1, hn, ho, hb, hk⟩ := hrel
    have hn0 : (0 : Int) ≤ n := by omega
    by_cases hlt : n < 17
    case neg =>
      obtain rfl : n = 17 := by omega
      have HO := Lib.hid ho
      clear ho
      go_wp2_with fail
      go_ret
      exact ⟨_, rfl, HO.out, hk⟩
    case pos =>
      have hI : (n : Int) < 17 := by omega
      have hI2 : (n : Int) ≤ 16 := by omega
      have c0 := hb.cell' (cells_get f hlt)
      have hs := vecOf_succ f n
      have hl := vecOf_len f n
      by_cases hp : 0 < f n
      case neg =>
        rw [if_neg hp] at hs
        have HO := Lib.hid ho
        have HS := Lib.hid hs
        have HB := Lib.hid hb
        clear ho hs hl hb
        go_wp2_with fail
        go_roundw
        case rel => exact ⟨n + 1, by go_num, by omega, by omega, by rw [HS.out]; exact HO.out, HB.out, hk⟩
        case measure => simp [intOf] <;> omega
      case pos =>
        rw [if_pos hp] at hs
        generalize vecOf f n = V at *
        have HO := Lib.hid (show (wr.alloc (.cells #[.int .i64 n, .int .i64 (f n)] 28)).ownsRow w.heap.size 28 dotE.k _ V.length (dotE.flat V) from ho.alloc _)
        have HS := Lib.hid hs
        have HK := Lib.hid (hk.alloc (.cells #[.int .i64 n, .int .i64 (f n)] 28))
        have HB := Lib.hid (hb.alloc (.cells #[.int .i64 n, .int .i64 (f n)] 28))
        have NE := Lib.hid (own_blk_ne ho hb (of_decide_eq_true (by kernel_rfl)))
        have LD := Lib.hid (lit_dot wr n (f n))
        have hsz := Lib.hid (hk.size)
        have NW := Lib.hid (owns_new ho)
        clear ho hs hk hb
        go_wp2_with (at_builtin; (refine wpList_append_row dotE rfl (.tmp 13) (.tmp 19) 23 rfl w.heap.size 28 (.agg #[.int .i64 0, .int .i64 0]) 16 Tryz.underlying23 info_dot rfl rfl rfl HO.out LD.out (by unfold maxLen; simp; omega) (by simp; omega) (by have := hsz.out; simp; omega) ?_); (intro v2 w2 ho2 hk2; have K2 : Hid (Kept (fun _ => False) w w2) := Lib.hid (HK.out.trans hk2 (fun b hb e => by have := NW.out b e; omega)); have B2 := Lib.hid (hk2.blk (fun e => NE.out e) HB.out); have O2 := Lib.hid ho2; clear hk2 ho2))
        go_roundw
        case rel => exact ⟨n + 1, by go_num, by omega, by omega, by rw [HS.out]; exact O2.out, B2.out, K2.out⟩
        case measure => simp [intOf] <;> omega
end Go.Proofs.YtaaeomapbigfgaaGreat
