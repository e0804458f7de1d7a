/- A Queue in memory. -/
import Derived.Test.YtaaeomapbigfgaaW13
namespace Go.Proofs.Ytaaeomapbigfgaa
open Go.RowKit Go.Proofs.Ytaaeomapbigfgaa.St
/-- what was delivered, what waits, what was not taken -/
structure QS where
  V : List Dot
  W : List Ent
  O : List Ent
def Ent.canB (V : List Dot) (e : Ent) : Bool := decide (Ent.can V e.v.dot e.D)
/-- the operation at a place of those that wait is delivered -/
def QS.take (s : QS) (i : Nat) (e : Ent) : QS := ⟨addV s.V e.v.dot, s.W.eraseIdx i, s.O ++ [e]⟩
/-- all that can be delivered, is -/
def drain : Nat → QS → QS
  | 0, s => s
  | n + 1, s => match s.W.findIdx? (Ent.canB s.V) with
    | none => s
    | some i => match s.W[i]? with
      | none => s
      | some e => drain n (s.take i e)
theorem drain_none {n : Nat} {s : QS} (h : ∀ e ∈ s.W, ¬ Ent.can s.V e.v.dot e.D) : drain n s = s := by
  cases n with
  | zero => rfl
  | succ n =>
    have : s.W.findIdx? (Ent.canB s.V) = none := List.findIdx?_eq_none_iff.2 fun e he => decide_eq_false (h e he)
    unfold drain
    rw [this]
theorem drain_some {n i : Nat} {s : QS} {e : Ent} (hn : s.W.length = n + 1) (he : s.W[i]? = some e) (hc : Ent.can s.V e.v.dot e.D) (hno : ∀ e ∈ s.W.take i, ¬ Ent.can s.V e.v.dot e.D) : drain s.W.length s = drain (s.take i e).W.length (s.take i e) := by
  obtain ⟨hi, rfl⟩ := List.getElem?_eq_some_iff.1 he
  have : s.W.findIdx? (Ent.canB s.V) = some i := by
    rw [List.findIdx?_eq_some_iff_getElem]
    refine ⟨hi, decide_eq_true hc, fun j hj => ?_⟩
    have hm : s.W[j] ∈ s.W.take i := List.mem_of_getElem? (i := j) (by rw [List.getElem?_take, if_pos hj]; exact List.getElem?_eq_getElem _)
    simp only [Ent.canB, decide_eq_true_eq]
    exact hno _ hm
  have hl : (s.take i s.W[i]).W.length = n := by show (s.W.eraseIdx i).length = n; rw [List.length_eraseIdx, if_pos hi]; omega
  rw [hn, hl]
  show (match s.W.findIdx? (Ent.canB s.V) with
    | none => s
    | some i => match s.W[i]? with
      | none => s
      | some e => drain n (s.take i e)) = _
  rw [this]
  show (match s.W[i]? with
      | none => s
      | some e => drain n (s.take i e)) = _
  rw [he]
/-- an operation's lists lie in rows of their own -/
structure Ent.Own (w : World) (e : Ent) : Prop where
  deps : w.ownsRow 0 27 2 e.v.deps.v e.D.length (dotE.flat e.D)
  gone : w.ownsRow 0 55 3 e.v.gone.v e.G.length (runE.flat e.G)
  ok : e.v.dot.Ok
  len : e.D.length ≤ 1000000
  len2 : e.G.length ≤ 1000000
theorem Ent.Own.at_ {w : World} {e : Ent} (h : e.Own w) : e.At w := ⟨owns_slAt (E := dotE) h.deps, owns_slAt (E := runE) h.gone⟩
/-- a frame that touches no rows of Dots and of runs -/
def Spares (w : World) (S : Nat → Prop) : Prop := ∀ b cs, S b → ¬ Blk w b 27 cs ∧ ¬ Blk w b 55 cs
theorem owns_spared {w : World} {base n size : Nat} {e : TypeId} {v : Value} {xs : List Value} (h : w.ownsRow base e size v n xs) : ∀ b, v.ownBlock = some b → ∃ cs, Blk w b e cs := fun b hb => by
  rcases h.2 with ⟨e2, _⟩ | ⟨g3, c2, cur, e2, h1, h2, _⟩
  · rw [e2] at hb; cases hb
  · rw [e2] at hb
    have hb : some g3 = some b := hb
    injection hb with hb
    subst hb
    exact ⟨_, h2⟩
theorem Ent.Own.keep {w w' : World} {S : Nat → Prop} {e : Ent} (h : e.Own w) (hk : Kept S w w') (hs : Spares w S) : e.Own w' :=
  ⟨owns_keep h.deps hk fun b hb hS => by obtain ⟨cs, hc⟩ := owns_spared h.deps b hb; exact (hs b cs hS).1 hc, owns_keep h.gone hk fun b hb hS => by obtain ⟨cs, hc⟩ := owns_spared h.gone b hb; exact (hs b cs hS).2 hc, h.ok, h.len, h.len2⟩
/-- the Queue at g; its rows of operations lie in F -/
structure QAt (w : World) (g : Nat) (hold : Int) (s : QS) (F : Nat → Prop) (vv wv ov : Value) : Prop where
  head : Blk w g 67 #[.int .i64 hold, vv, wv, ov]
  vec : w.ownsRow 0 27 2 vv s.V.length (dotE.flat s.V)
  vlen : s.V.length ≤ 1000
  wait : w.ownsRow 0 34 11 wv s.W.length (entE.flat s.W)
  wlen : s.W.length ≤ 100000
  out : OutAt entE w 34 ov s.O
  olen : s.O.length ≤ 500000
  wF : ∀ b, wv.ownBlock = some b → F b
  oF : ∀ b, ov.ownBlock = some b → F b
  apart : ∀ b, wv.ownBlock = some b → ov.ownBlock ≠ some b
  oB : ∀ b, ov.ownBlock = some b → b < w.heap.size
  ents : ∀ e ∈ s.W ++ s.O, e.Own w
/-- what Offer may write -/
def QF (w : World) (g : Nat) (F : Nat → Prop) (b : Nat) : Prop := b = g ∨ F b ∧ ∃ cs, Blk w b 34 cs
theorem QF.back {w w' : World} {g : Nat} {F : Nat → Prop} (hk : Kept (fun _ => False) w w') {b : Nat} (hb : b < w.heap.size) (h : QF w' g F b) : QF w g F b := by
  rcases h with h | ⟨h, cs, hc⟩
  · exact .inl h
  · exact .inr ⟨h, cs, (hk.block b hb (fun h => h)).symm.trans hc⟩
theorem QAt.spares {w : World} {g : Nat} {hold : Int} {s : QS} {F : Nat → Prop} {vv wv ov : Value} (h : QAt w g hold s F vv wv ov) : Spares w (QF w g F) := by
  rintro b cs (rfl | ⟨_, cs2, hc⟩)
  · exact ⟨fun hb => h.head.ne_ hb (of_decide_eq_true (by kernel_rfl)) rfl, fun hb => h.head.ne_ hb (of_decide_eq_true (by kernel_rfl)) rfl⟩
  · exact ⟨fun hb => hc.ne_ hb (of_decide_eq_true (by kernel_rfl)) rfl, fun hb => hc.ne_ hb (of_decide_eq_true (by kernel_rfl)) rfl⟩
theorem QAt.wider {w : World} {g : Nat} {hold : Int} {s : QS} {F F' : Nat → Prop} {vv wv ov : Value} (h : QAt w g hold s F vv wv ov) (hf : ∀ b, F b → F' b) : QAt w g hold s F' vv wv ov :=
  { h with wF := fun b hb => hf b (h.wF b hb), oF := fun b hb => hf b (h.oF b hb) }
theorem QAt.kept {w w' : World} {g : Nat} {hold : Int} {s : QS} {F : Nat → Prop} {vv wv ov : Value} (h : QAt w g hold s F vv wv ov) (hk : Kept (fun _ => False) w w') : QAt w' g hold s F vv wv ov :=
  ⟨hk.blk (fun h => h) h.head, owns_keep h.vec hk (fun _ _ h => h), h.vlen, owns_keep h.wait hk (fun _ _ h => h), h.wlen, h.out.keep hk (fun _ _ _ h => h), h.olen, h.wF, h.oF, h.apart, fun b hb => Nat.lt_of_lt_of_le (h.oB b hb) hk.size, fun e he => (h.ents e he).keep hk (fun _ _ h => h.elim)⟩
theorem owns_far {w : World} {base n size : Nat} {e : TypeId} {v : Value} {xs : List Value} (h : w.ownsRow base e size v n xs) {g : Nat} {t : TypeId} {cs : Array Value} (hg : Blk w g t cs) (hne : e ≠ t) : ∀ b, v.ownBlock = some b → ¬ b = g := fun b hb e2 => by subst e2; exact own_blk_ne h hg hne hb
theorem grow1_kept {w w' : World} {v v' : Value} (h : Grow1 w w' v v') : Kept (fun b => v.ownBlock = some b) w w' := by
  rcases h with ⟨_, h⟩ | ⟨_, h⟩
  · exact h
  · exact h.mono (fun _ _ h => h.elim)
section
variable {w w' : World} {g : Nat} {hold : Int} {s : QS} {F : Nat → Prop} {vv wv ov : Value} {e : Ent}
theorem QAt.wOp (h : QAt w g hold s F vv wv ov) : ∀ b, wv.ownBlock = some b → ∃ cs, Blk w b 34 cs := owns_spared h.wait
/-- one waits more -/
theorem QAt.pushed (h : QAt w g hold s F vv wv ov) (he : e.Own w) {v' : Value} (ho : w'.ownsRow 0 34 11 v' (s.W.length + 1) (entE.flat (s.W ++ [e]))) (hg : Grow1 w w' wv v') (hl : s.W.length + 1 ≤ 100000) :
    QAt (w'.setCell ⟨g, 2, none⟩ v') g hold ⟨s.V, s.W ++ [e], s.O⟩ (fun b => F b ∨ w.heap.size ≤ b) vv v' ov ∧ Kept (QF w g F) w (w'.setCell ⟨g, 2, none⟩ v') := by
  have hk := grow1_kept hg
  have hgw : ¬ wv.ownBlock = some g := fun hb => by obtain ⟨cs, hc⟩ := h.wOp g hb; exact h.head.ne_ hc (of_decide_eq_true (by kernel_rfl)) rfl
  have h1 : Blk w' g 67 #[.int .i64 hold, vv, wv, ov] := hk.blk hgw h.head
  have kS : Kept (fun x => x = g) w' (w'.setCell ⟨g, 2, none⟩ v') := (Kept.refl (fun x => x = g) w').setCell (p := ⟨g, 2, none⟩) (fun _ => rfl) _
  have kA : Kept (QF w g F) w (w'.setCell ⟨g, 2, none⟩ v') := (hk.mono (S' := QF w g F) (fun b _ hb => .inr ⟨h.wF b hb, h.wOp b hb⟩)).trans kS (fun _ _ e => .inl e)
  have v1 := owns_keep h.vec hk (fun b hb e => by obtain ⟨cs, hc⟩ := owns_spared h.vec b hb; obtain ⟨cs2, hc2⟩ := h.wOp b e; exact hc.ne_ hc2 (of_decide_eq_true (by kernel_rfl)) rfl)
  have o1 := h.out.keep hk (fun b hb _ e => h.apart b e hb)
  refine ⟨⟨h1.set_ 2 v', owns_keep v1 kS (owns_far v1 h1 (of_decide_eq_true (by kernel_rfl))), h.vlen, ?_, by simpa using hl, o1.keep kS (fun b _ ⟨cs, hc⟩ e => h1.ne_ hc (of_decide_eq_true (by kernel_rfl)) e.symm), h.olen, ?_, fun b hb => .inl (h.oF b hb), ?_, fun b hb => Nat.lt_of_lt_of_le (h.oB b hb) (kA.size), ?_⟩, kA⟩
  · have := owns_keep ho kS (owns_far ho h1 (of_decide_eq_true (by kernel_rfl)))
    simpa using this
  · intro b hb
    rcases hg with ⟨e1, _⟩ | ⟨e1, _⟩
    · exact .inl (h.wF b (e1 ▸ hb))
    · rw [e1] at hb; injection hb with hb; exact .inr (by omega)
  · intro b hb hb2
    rcases hg with ⟨e1, _⟩ | ⟨e1, _⟩
    · exact h.apart b (e1 ▸ hb) hb2
    · rw [e1] at hb; injection hb with hb; have := h.oB b hb2; omega
  · intro y hy
    have hy' : y ∈ s.W ++ s.O ∨ y = e := by
      have hy : y ∈ (s.W ++ [e]) ++ s.O := hy
      rcases List.mem_append.1 hy with hy | hy
      · rcases List.mem_append.1 hy with hy | hy
        · exact .inl (List.mem_append.2 (.inl hy))
        · exact .inr (List.mem_singleton.1 hy)
      · exact .inl (List.mem_append.2 (.inr hy))
    rcases hy' with hy | rfl
    · exact (h.ents y hy).keep kA h.spares
    · exact he.keep kA h.spares
/-- one that waits was taken away -/
theorem QAt.goneAt {b cap i : Nat} (h : QAt w g hold s F vv (.slice (some ⟨b, 0, none⟩) s.W.length cap) ov) (hi : i < s.W.length) (h1 : Blk w' g 67 #[.int .i64 hold, vv, .slice (some ⟨b, 0, none⟩) (s.W.length - 1) cap, ov])
    (hO : OwnAt entE w' 34 b cap (s.W.eraseIdx i)) (hk : Kept (fun x => x = g ∨ x = b) w w') : QAt w' g hold ⟨s.V, s.W.eraseIdx i, s.O⟩ F vv (.slice (some ⟨b, 0, none⟩) (s.W.length - 1) cap) ov ∧ Kept (QF w g F) w w' := by
  have hbO : ∃ cs, Blk w b 34 cs := h.wOp b rfl
  obtain ⟨csb, hcb⟩ := hbO
  have kA : Kept (QF w g F) w w' := hk.mono (fun x _ hx => by rcases hx with rfl | rfl; exact .inl rfl; exact .inr ⟨h.wF _ rfl, csb, hcb⟩)
  have hl : (s.W.eraseIdx i).length = s.W.length - 1 := by rw [List.length_eraseIdx, if_pos hi]
  refine ⟨⟨h1, owns_keep h.vec hk (fun x hx e => ?_), h.vlen, ?_, by show (s.W.eraseIdx i).length ≤ _; have := h.wlen; omega, h.out.keep hk (fun x hx hc e => ?_), h.olen, h.wF, h.oF, h.apart, fun x hx => Nat.lt_of_lt_of_le (h.oB x hx) hk.size, fun y hy => ?_⟩, kA⟩
  · obtain ⟨cs, hc⟩ := owns_spared h.vec x hx
    rcases e with rfl | rfl
    · exact h.head.ne_ hc (of_decide_eq_true (by kernel_rfl)) rfl
    · exact hc.ne_ hcb (of_decide_eq_true (by kernel_rfl)) rfl
  · have := hO.owns (Nat.zero_le b)
    rw [hl] at this
    show w'.ownsRow 0 _ 11 _ (s.W.eraseIdx i).length _
    rw [hl]
    exact this
  · obtain ⟨cs, hc⟩ := hc
    rcases e with rfl | rfl
    · exact h.head.ne_ hc (of_decide_eq_true (by kernel_rfl)) rfl
    · exact h.apart _ rfl hx
  · have hy : y ∈ s.W.eraseIdx i ++ s.O := hy
    refine (h.ents y ?_).keep kA h.spares
    rcases List.mem_append.1 hy with hy | hy
    · exact List.mem_append.2 (.inl (List.mem_of_mem_eraseIdx hy))
    · exact List.mem_append.2 (.inr hy)
theorem OutAt.lt_of {t : TypeId} {v : Value} {O : List Ent} (h : OutAt entE w t v O) (hn : O ≠ []) : ∀ b, v.ownBlock = some b → b < w.heap.size := fun b hb => by
  rcases h with ⟨_, _, h⟩ | ⟨g, cap, R, rfl, _, hO⟩
  · exact absurd h hn
  · have hb : some g = some b := hb
    injection hb with hb
    subst hb
    exact hO.lt
/-- one was delivered -/
theorem QAt.delivered (h : QAt w g hold s F vv wv ov) (he : e.Own w) {v' ov' : Value} (h1 : Blk w' g 67 #[.int .i64 hold, v', wv, ov']) (hv : w'.ownsRow w.heap.size 27 2 v' (addV s.V e.v.dot).length (dotE.flat (addV s.V e.v.dot)))
    (hO : OutAt entE w' 34 ov' (s.O ++ [e])) (hb : ov'.ownBlock = ov.ownBlock ∨ ∃ b, ov'.ownBlock = some b ∧ w.heap.size ≤ b) (hk : Kept (fun x => x = g ∨ ov.ownBlock = some x ∧ ∃ cs, Blk w x 34 cs) w w') (hl : s.O.length + 1 ≤ 500000) :
    QAt w' g hold ⟨addV s.V e.v.dot, s.W, s.O ++ [e]⟩ (fun b => F b ∨ w.heap.size ≤ b) v' wv ov' ∧ Kept (QF w g F) w w' := by
  have kA : Kept (QF w g F) w w' := hk.mono (fun x _ hx => by rcases hx with rfl | ⟨hx, hc⟩; exact .inl rfl; exact .inr ⟨h.oF _ hx, hc⟩)
  refine ⟨⟨h1, owns_lower hv (Nat.zero_le _), ?_, owns_keep h.wait hk (fun x hx e => ?_), h.wlen, hO, by simpa using hl, fun b hb => .inl (h.wF b hb), ?_, ?_, OutAt.lt_of hO (by simp), fun y hy => ?_⟩, kA⟩
  · show (addV s.V e.v.dot).length ≤ 1000
    have := vecOf_len (fun i => if (i : Int) = e.v.dot.site then e.v.dot.seq else says s.V i) 17
    unfold addV
    omega
  · rcases e with rfl | ⟨e, _⟩
    · obtain ⟨cs, hc⟩ := owns_spared h.wait _ hx
      exact h.head.ne_ hc (of_decide_eq_true (by kernel_rfl)) rfl
    · exact h.apart x hx e
  · intro b hb2
    rcases hb with hb | ⟨b2, hb, hlt⟩
    · exact .inl (h.oF b (hb ▸ hb2))
    · rw [hb] at hb2; injection hb2 with hb2; exact .inr (by omega)
  · intro b hw hb2
    rcases hb with hb | ⟨b2, hb, hlt⟩
    · exact h.apart b hw (hb ▸ hb2)
    · rw [hb] at hb2
      injection hb2 with hb2
      obtain ⟨cs, hc⟩ := h.wOp b hw
      have := hc.lt
      omega
  · have hy : y ∈ s.W ++ (s.O ++ [e]) := hy
    rw [← List.append_assoc] at hy
    rcases List.mem_append.1 hy with hy | hy
    · exact (h.ents y hy).keep kA h.spares
    · rw [List.mem_singleton.1 hy]
      exact he.keep kA h.spares
end
end Go.Proofs.Ytaaeomapbigfgaa
