/- hearsaylaw13.join and dots. A Queue made behind a world, which the calls leave as it was. A queue by what its operations are, without where they lie. hearsayref7.Says. -/
import Derived.Test.YtaaeomapbigfgaaW16
import Derived.Test.YtaaeomapbigfgaaW34
import Derived.Test.YtaaeomapbigfgaaW24
import Derived.Test.YtaaeomapbigfgaaW20
import Derived.Test.YtaaeomapbigfgaaW17
import Derived.Test.YtaaeomapbigfgaaW18
import Derived.Test.YtaaeomapbigfgaaW7
namespace Go.Proofs.Ytaaeomapbigfgaa
open Go.RowKit Go.Proofs.Ytaaeomapbigfgaa.St
open Go.Sort (grow)
/-- a join -/
def joinV (d : Dot) (s : Sl) : OpV := ⟨d, s, 3, ⟨0, 0⟩, ⟨0, 0⟩, ⟨#[]⟩, ⟨none, 0, 0⟩, 9⟩
set_option maxRecDepth 100000 in
set_option maxHeartbeats 2000000 in
theorem join_any {w : World} (d : Dot) (s : Sl) :
    Calls Try.prog 17 #[.int .i64 d.site, .int .i64 d.seq, s.v] w fun r w' => r = .returned (.agg (opA (joinV d s))) ∧ Kept (fun _ => False) w w' := by
  have B0 := Lib.hid (Blk.new w 34 zeroOp)
  have k0 : Kept (fun _ => False) w (w.alloc (.cells zeroOp 34)) := (Kept.refl _ _).alloc _
  have hs : s.v = .slice s.a s.n s.c := rfl
  rw [hs]
  clear hs
  go_enter Try.func17, Try.ntmps17
  go_upto_region 1 with fail
  have K0 := Lib.hid k0
  generalize w.alloc (.cells zeroOp 34) = w0 at *
  clear k0
  go_wp2_with (first
    | (refine wpList_store_row rfl 34 _ _ rfl w.heap.size (opA (joinV d s)) rfl rfl 34 zeroOp B0.out (by rw [opA_size]; exact size_op) (by rw [opA_size]; rfl) (opA_one _) ?_))
  exact bodyPost_ret (Blk.result rfl _ (B0.out.row _) rfl Try.underlying34 rfl (by rw [opA_size]; exact size_op)) rfl ⟨rfl, K0.out.setRow (fun h => by omega) _⟩
theorem dots_any {w : World} {u v : Value} {L M : List Dot} (hu : SlAt dotE w u L) (hv : SlAt dotE w v M) (hb : L.length ≤ 1000000000) :
    Calls Try.prog 14 #[u, v] w fun e w' => e = .returned (.bool (decide (L = M))) ∧ ∃ q, w' = w.drewN q := by
  have HS := Lib.hid (same_any hu hv hb)
  clear hu hv
  go_enter Try.func14, Try.ntmps14
  go_wp2_with (go_at_call 15; refine HS.out.mono ?_; rintro r w1 ⟨rfl, q, rfl⟩)
  go_ret
  exact ⟨rfl, q, rfl⟩
end Go.Proofs.Ytaaeomapbigfgaa
namespace Go.Proofs.Ytaaeomapbigfgaa
open Go.RowKit Go.Proofs.Ytaaeomapbigfgaa.St
theorem QAt.tight {w : World} {g : Nat} {hold : Int} {s : QS} {F : Nat → Prop} {vv wv ov : Value} (h : QAt w g hold s F vv wv ov) : QAt w g hold s (fun b => F b ∧ b < w.heap.size) vv wv ov :=
  { h with wF := fun b hb => ⟨h.wF b hb, by obtain ⟨cs, hc⟩ := h.wOp b hb; exact hc.lt⟩, oF := fun b hb => ⟨h.oF b hb, h.oB b hb⟩ }
def inF (wb w : World) (b : Nat) : Prop := wb.heap.size ≤ b ∧ b < w.heap.size
/-- a Queue behind wb -/
def QIn (wb w : World) (g : Nat) (hold : Int) (s : QS) : Prop :=
  wb.heap.size ≤ g ∧ Kept (fun _ => False) wb w ∧ ∃ vv wv ov, QAt w g hold s (inF wb w) vv wv ov
section
variable {wb w w' : World} {g : Nat} {hold : Int} {s : QS}
theorem QIn.kept (h : QIn wb w g hold s) (hk : Kept (fun _ => False) w w') : QIn wb w' g hold s := by
  obtain ⟨h1, h2, vv, wv, ov, h3⟩ := h
  exact ⟨h1, h2.trans hk (fun _ _ h => h), vv, wv, ov, (h3.kept hk).wider (fun b hb => ⟨hb.1, Nat.lt_of_lt_of_le hb.2 hk.size⟩)⟩
theorem QIn.lt (h : QIn wb w g hold s) : g < w.heap.size := by obtain ⟨h1, h2, vv, wv, ov, h3⟩ := h; exact h3.head.lt
theorem QIn.wlen (h : QIn wb w g hold s) : s.W.length ≤ 100000 := by obtain ⟨h1, h2, vv, wv, ov, h3⟩ := h; exact h3.wlen
/-- what an offer may write -/
def offF (wb w : World) (g : Nat) : Nat → Prop := QF w g (inF wb w)
theorem offer_in {x : OpV} {D : List Dot} (h : QIn wb w g hold s) (hx : x.Join) (hok : x.dot.Ok) (hD : SlAt dotE w x.deps.v D) (hG : SlAt runE w x.gone.v []) (hDl : D.length ≤ 1000000) (hch : chkV 0 D = 0) (hget : getV D x.dot.site = x.dot.seq - 1) (hW : s.W.length ≤ 10000) (hO : s.O.length ≤ 100000) :
    Calls Try.prog 8 #[.pointer (some ⟨g, 0, none⟩), .agg (opA x)] w fun r w' => ∃ a e s', r = .returned (.tuple #[.int .i64 a, .int .i64 0]) ∧ key e = (x.dot, D) ∧ e.v.kind = 3 ∧ OfferIs hold s 0 e a s' ∧ QIn wb w' g hold s' ∧ Kept (offF wb w g) w w' := by
  obtain ⟨h1, h2, vv, wv, ov, h3⟩ := h
  refine (offer_any (c := 0) h3 hD hG hDl (by simp) hW hO (fun w' hk => check_join hx hok (hD.kept hk) hDl hch hget) (fun _ => hok) (fun b hb => hb.2)).mono ?_
  rintro r w' ⟨a, d, z, s', vv', wv', ov', rfl, hoff, hq, hk, _⟩
  refine ⟨a, _, s', rfl, rfl, hx.kind, hoff, ⟨h1, h2.over hk (fun b hb => ?_), vv', wv', ov', hq.tight.wider (fun b hb => ⟨?_, hb.2⟩)⟩, hk⟩
  · rcases hb with rfl | ⟨hb, _⟩
    · exact h1
    · exact hb.1
  · rcases hb.1 with hb | hb
    · exact hb.1
    · exact Nat.le_trans h2.size hb
theorem new_in {v : Value} {V : List Dot} (hv : SlAt dotE w v V) (hl : V.length ≤ 1000) (hc : newC hold V = 0) :
    Calls Try.prog 7 #[.int .i64 hold, v] w fun r w' => ∃ g, r = .returned (.tuple #[.pointer (some ⟨g, 0, none⟩), .int .i64 0]) ∧ QIn w w' g hold ⟨V, [], []⟩ := by
  refine (new_any (hold := hold) hv (by omega)).mono ?_
  rintro r w' ⟨hk, ⟨hne, _⟩ | ⟨_, g, v', rfl, hg, hb, ho⟩⟩
  · exact absurd hc hne
  · refine ⟨g, rfl, hg, hk, v', .slice none 0 0, .slice none 0 0, ⟨hb, owns_lower ho (Nat.zero_le _), hl, World.ownsRow_nil _ _ _ _, by simp, OutAt.nil _ _, by simp, fun b hb => by simp [Value.ownBlock] at hb, fun b hb => by simp [Value.ownBlock] at hb, fun b hb => by simp [Value.ownBlock] at hb, fun b hb => by simp [Value.ownBlock] at hb, by simp⟩⟩
theorem take_in (h : QIn wb w g hold s) :
    Calls Try.prog 9 #[.pointer (some ⟨g, 0, none⟩)] w fun r w' => Kept (fun x => x = g) w w' ∧ ((s.O = [] ∧ r = .returned (.tuple #[.agg zeroOp, .bool false]) ∧ QIn wb w' g hold s) ∨
      ∃ e O', s.O = e :: O' ∧ r = .returned (.tuple #[.agg (opA e.v), .bool true]) ∧ QIn wb w' g hold ⟨s.V, s.W, O'⟩) := by
  have h0 := h
  obtain ⟨h1, h2, vv, wv, ov, h3⟩ := h
  refine (take_any h3.head h3.out (by have := h3.olen; omega)).mono ?_
  rintro r w' (⟨hn, rfl, hk⟩ | ⟨e, O', ov', hO, rfl, hb, ho, hob, hk⟩)
  · exact ⟨hk.mono (fun _ _ h => h.elim), .inl ⟨hn, rfl, h0.kept hk⟩⟩
  · refine ⟨hk, .inr ⟨e, O', hO, rfl, h1, h2.over hk (fun b hb => by rw [hb]; exact h1), vv, wv, ov', ?_⟩⟩
    have hsp : Spares w (fun x => x = g) := fun b cs e => by subst e; exact ⟨fun hb => h3.head.ne_ hb (of_decide_eq_true (by kernel_rfl)) rfl, fun hb => h3.head.ne_ hb (of_decide_eq_true (by kernel_rfl)) rfl⟩
    exact ⟨hb, owns_keep h3.vec hk (owns_far h3.vec h3.head (of_decide_eq_true (by kernel_rfl))), h3.vlen, owns_keep h3.wait hk (owns_far h3.wait h3.head (of_decide_eq_true (by kernel_rfl))), h3.wlen, ho, by have := h3.olen; rw [hO] at this; simp at this; show O'.length ≤ _; omega,
      fun b hb => ⟨(h3.wF b hb).1, Nat.lt_of_lt_of_le (h3.wF b hb).2 hk.size⟩, fun b hb => by rw [hob] at hb; exact ⟨(h3.oF b hb).1, Nat.lt_of_lt_of_le (h3.oF b hb).2 hk.size⟩, fun b hb => by rw [hob]; exact h3.apart b hb, fun b hb => by rw [hob] at hb; exact Nat.lt_of_lt_of_le (h3.oB b hb) hk.size,
      fun y hy => (h3.ents y (by rcases List.mem_append.1 hy with hy | hy; exact List.mem_append.2 (.inl hy); exact List.mem_append.2 (.inr (by rw [hO]; exact List.mem_cons_of_mem _ hy)))).keep hk hsp⟩
theorem waits_in (h : QIn wb w g hold s) :
    Calls Try.prog 12 #[.pointer (some ⟨g, 0, none⟩)] w fun r w' => ∃ v' L, r = .returned v' ∧ L.Perm (dotsOf s.W) ∧ DSorted L ∧ w'.ownsRow w.heap.size 27 2 v' L.length (dotE.flat L) ∧ Kept (fun _ => False) w w' := by
  obtain ⟨h1, h2, vv, wv, ov, h3⟩ := h
  exact waits_any h3.head h3.wait (by have := h3.wlen; omega)
theorem vector_in (h : QIn wb w g hold s) :
    Calls Try.prog 11 #[.pointer (some ⟨g, 0, none⟩)] w fun r w' => ∃ v', r = .returned v' ∧ w'.ownsRow w.heap.size 27 2 v' s.V.length (dotE.flat s.V) ∧ Kept (fun _ => False) w w' := by
  obtain ⟨h1, h2, vv, wv, ov, h3⟩ := h
  exact vector_any h3.head (owns_slAt (E := dotE) h3.vec) (by have := h3.vlen; omega)
theorem free_in (h : QIn wb w g hold s) (hh1 : -1000000 ≤ hold) (hh2 : hold ≤ 1000000) :
    Calls Try.prog 18 #[.pointer (some ⟨g, 0, none⟩)] w fun r w' => r = .returned (.int .i64 (hold - s.W.length)) ∧ Grew w w' := by
  obtain ⟨h1, h2, vv, wv, ov, h3⟩ := h
  obtain ⟨a, c, rfl⟩ := owns_sl h3.wait
  exact free_any h3.head hh1 hh2 (by have := h3.wlen; omega)
end
end Go.Proofs.Ytaaeomapbigfgaa
namespace Go.Proofs.Ytaaeomapbigfgaa
open Go.Proofs.Ytaaeomapbigfgaa.St
structure AQ where
  V : List Dot
  W : List Key
  O : List Key
deriving DecidableEq
def QS.abs (s : QS) : AQ := ⟨s.V, s.W.map key, s.O.map key⟩
def agr (W : List Key) : Nat → Nat
  | 0 => 0
  | n + 1 => match W[n]?, W[agr W n]? with
    | some e, some f => if 0 < farV e.1 f.1 e.2 f.2 then n else agr W n
    | _, _ => agr W n
def adrain : Nat → AQ → AQ
  | 0, s => s
  | n + 1, s => match s.W.findIdx? (fun k => decide (Ent.can s.V k.1 k.2)) with
    | none => s
    | some i => match s.W[i]? with
      | none => s
      | some e => adrain n ⟨addV s.V e.1, s.W.eraseIdx i, s.O ++ [e]⟩
def aoffer (hold : Int) (s : AQ) (e : Key) : Int × AQ :=
  if hasV s.V e.1 ∨ (s.W.any fun k => decide (k.1 = e.1)) = true then (3, s) else
  if Ent.can s.V e.1 e.2 then (1, adrain s.W.length ⟨addV s.V e.1, s.W, s.O ++ [e]⟩) else
  if (s.W.length : Int) + 1 ≤ hold then (2, ⟨s.V, s.W ++ [e], s.O⟩) else
  (match (s.W ++ [e])[agr (s.W ++ [e]) (s.W.length + 1)]? with
    | some f => (if f.1 = e.1 then 4 else 2)
    | none => 2, ⟨s.V, (s.W ++ [e]).eraseIdx (agr (s.W ++ [e]) (s.W.length + 1)), s.O⟩)
theorem grI_abs (W : List Ent) : ∀ n, grI W n = agr (W.map key) n
  | 0 => rfl
  | n + 1 => by
    unfold grI agr
    rw [grI_abs W n, List.getElem?_map, List.getElem?_map]
    cases h1 : W[n]? with
    | none => rfl
    | some e =>
      cases h2 : W[agr (W.map key) n]? with
      | none => rfl
      | some f => rfl
theorem drain_abs : ∀ (n : Nat) (s : QS), (drain n s).abs = adrain n s.abs
  | 0, _ => rfl
  | n + 1, s => by
    unfold drain adrain
    have hf : s.abs.W.findIdx? (fun k => decide (Ent.can s.abs.V k.1 k.2)) = s.W.findIdx? (Ent.canB s.V) := by
      show (s.W.map key).findIdx? _ = _
      rw [List.findIdx?_map]
      rfl
    rw [hf]
    cases h1 : s.W.findIdx? (Ent.canB s.V) with
    | none => rfl
    | some i =>
      have hg : s.abs.W[i]? = s.W[i]?.map key := List.getElem?_map
      cases h2 : s.W[i]? with
      | none => simp only [hg, h2]; rfl
      | some e =>
        simp only [hg, h2, Option.map_some]
        rw [drain_abs n (s.take i e)]
        congr 1
        show AQ.mk _ ((s.W.eraseIdx i).map key) ((s.O ++ [e]).map key) = AQ.mk _ ((s.W.map key).eraseIdx i) (s.O.map key ++ [key e])
        rw [map_erase, List.map_append]
        rfl
theorem has_abs (W : List Ent) (d : Dot) : hasDot W d = (W.map key).any fun k => decide (k.1 = d) := by
  unfold hasDot
  rw [List.any_map]
  rfl
theorem OfferIs.abs {hold a : Int} {s s' : QS} {e : Ent} (h : OfferIs hold s 0 e a s') : (a, s'.abs) = aoffer hold s.abs (key e) := by
  unfold aoffer
  have e0 : (s.abs.W.any fun k => decide (k.1 = (key e).1)) = hasDot s.W e.v.dot := (has_abs s.W e.v.dot).symm
  have e1 : s.abs.W.length = s.W.length := List.length_map _
  have e2 : s.abs.W ++ [key e] = (s.W ++ [e]).map key := by rw [List.map_append]; rfl
  rw [e0, e1, e2, ← grI_abs]
  rcases h with ⟨h, _⟩ | ⟨_, hhad, rfl, rfl⟩ | ⟨_, hnot, hc, rfl, rfl⟩ | ⟨_, hnot, hc, hr, rfl, rfl⟩ | ⟨_, hnot, hc, hr, f, hf, rfl, rfl⟩
  · exact absurd rfl h
  · rw [if_pos (show hasV s'.abs.V (key e).1 ∨ _ from hhad)]
  · rw [if_neg (show ¬ (hasV s.abs.V (key e).1 ∨ _) from hnot), if_pos (show Ent.can s.abs.V (key e).1 (key e).2 from hc), drain_abs]
    congr 2
    show AQ.mk _ _ ((s.O ++ [e]).map key) = _
    rw [List.map_append]
    rfl
  · rw [if_neg (show ¬ (hasV s.abs.V (key e).1 ∨ _) from hnot), if_neg (show ¬ Ent.can s.abs.V (key e).1 (key e).2 from hc), if_pos hr]
    congr 1
  · rw [if_neg (show ¬ (hasV s.abs.V (key e).1 ∨ _) from hnot), if_neg (show ¬ Ent.can s.abs.V (key e).1 (key e).2 from hc), if_neg (show ¬ ((s.W.length : Int) + 1 ≤ hold) by omega), List.getElem?_map, hf, map_erase]
    rfl
abbrev kn (a b : Int) (D : List Dot) : Key := (⟨a, b⟩, D)
theorem known1 : aoffer 2 ⟨[], [], []⟩ (kn 1 1 []) = (1, ⟨[⟨1, 1⟩], [], [kn 1 1 []]⟩) := by decide +kernel
theorem known2 : aoffer 2 ⟨[⟨1, 1⟩], [], [kn 1 1 []]⟩ (kn 1 3 [⟨1, 2⟩]) = (2, ⟨[⟨1, 1⟩], [kn 1 3 [⟨1, 2⟩]], [kn 1 1 []]⟩) := by decide +kernel
theorem known3 : aoffer 2 ⟨[⟨1, 1⟩], [kn 1 3 [⟨1, 2⟩]], [kn 1 1 []]⟩ (kn 2 1 [⟨1, 3⟩]) = (2, ⟨[⟨1, 1⟩], [kn 1 3 [⟨1, 2⟩], kn 2 1 [⟨1, 3⟩]], [kn 1 1 []]⟩) := by decide +kernel
theorem known4 : aoffer 2 ⟨[⟨1, 1⟩], [kn 1 3 [⟨1, 2⟩], kn 2 1 [⟨1, 3⟩]], [kn 1 1 []]⟩ (kn 2 2 [⟨1, 3⟩, ⟨2, 1⟩]) = (4, ⟨[⟨1, 1⟩], [kn 1 3 [⟨1, 2⟩], kn 2 1 [⟨1, 3⟩]], [kn 1 1 []]⟩) := by decide +kernel
theorem known5 : aoffer 2 ⟨[⟨1, 1⟩], [kn 1 3 [⟨1, 2⟩], kn 2 1 [⟨1, 3⟩]], [kn 1 1 []]⟩ (kn 3 1 [⟨1, 2⟩]) = (2, ⟨[⟨1, 1⟩], [kn 1 3 [⟨1, 2⟩], kn 3 1 [⟨1, 2⟩]], [kn 1 1 []]⟩) := by decide +kernel
theorem known6 : aoffer 2 ⟨[⟨1, 1⟩], [kn 1 3 [⟨1, 2⟩], kn 3 1 [⟨1, 2⟩]], [kn 1 1 []]⟩ (kn 1 2 [⟨1, 1⟩]) = (1, ⟨[⟨1, 3⟩, ⟨3, 1⟩], [], [kn 1 1 [], kn 1 2 [⟨1, 1⟩], kn 1 3 [⟨1, 2⟩], kn 3 1 [⟨1, 2⟩]]⟩) := by decide +kernel
theorem dsorted_eq {L M : List Dot} (hp : L.Perm M) (h1 : DSorted L) (h2 : DSorted M) : L = M := by
  refine List.Perm.eq_of_pairwise (le := fun a b : Dot => ¬ b.lt a) (fun a b _ _ h3 h4 => ?_) h1 h2 hp
  have h3' : ¬ b.id.lt a.id := h3
  have h4' : ¬ a.id.lt b.id := h4
  unfold ID.lt at h3' h4'
  unfold Dot.id at h3' h4'
  rw [Dot.ext_iff]
  simp only at h3' h4'
  omega
end Go.Proofs.Ytaaeomapbigfgaa
namespace Go.Proofs.Ytaaeomapbigfgaa
open Go.RowKit Go.Proofs.Ytaaeomapbigfgaa.St
theorem sayS_low {f : Nat → Int} {k : Nat} {q : Int} (h : ¬ f k < q) : sayS f ⟨k, q⟩ = f := by
  funext i
  unfold sayS
  by_cases hi : (⟨k, q⟩ : Dot).Ok ∧ (⟨k, q⟩ : Dot).site = i
  · rw [if_pos hi]
    have e : (k : Int) = i := hi.2
    obtain rfl : k = i := by omega
    exact if_neg h
  · rw [if_neg hi]
theorem sayS_high {f : Nat → Int} {k : Nat} {q : Int} (h : (⟨k, q⟩ : Dot).Ok) (hlt : f k < q) : (cells f).setIfInBounds k (.int .i64 q) = cells (sayS f ⟨k, q⟩) := by
  rw [← says_cells h, if_pos hlt]
set_option maxRecDepth 100000 in
set_option maxHeartbeats 4000000 in
theorem rsays_grew {w : World} {v : Value} {L : List Dot} (h : SlAt dotE w v L) (hb : L.length ≤ 1000000000) : Calls Try.prog 34 #[v] w fun e w' => e = .returned (.agg (cells (says L))) ∧ Grew w w' := by
  obtain ⟨a, c, rfl, _, _⟩ := h.sl
  have HS := Lib.hid h
  clear h
  go_enter Try.func34, Try.ntmps34
  go_wp2_with fail
  go_loopw [4] (fun iv wr => ∃ n : Nat, iv = .int .i64 n ∧ n ≤ L.length ∧ Blk wr (w.heap.size + 1) 78 (cells (says (L.take n))) ∧ Blk wr w.heap.size 78 (cells fun _ => 0) ∧ Grew w wr) (fun iv _ => L.length - (intOf iv).toNat)
  case atStart =>
    refine ⟨0, rfl, Nat.zero_le _, ?_, (Blk.new _ _ _).alloc _, ((Grew.refl _).alloc _).alloc _⟩
    have := Blk.new (w.alloc (.cells (cells fun _ => 0) 78)) 78 (cells fun _ => 0)
    rw [show (w.alloc (.cells (cells fun _ => 0) 78)).heap.size = w.heap.size + 1 by simp] at this
    exact this
  case round =>
    obtain ⟨n, rfl, hn, hs, hr, hk⟩ := hrel
    have hn0 : (0 : Int) ≤ n := by omega
    by_cases hlt : n < L.length
    case neg =>
      have hnl : ¬ (n : Int) < L.length := by omega
      rw [List.take_of_length_le (by omega)] at hs
      have HS' := Lib.hid hs
      have HR := Lib.hid hr
      have x3 := Lib.hid (hk.setRow (g := w.heap.size) (Nat.le_refl _) (cells (says L)))
      clear hs hr hk
      go_wp2_with (first
        | (refine wpList_load_row rfl 78 _ rfl (w.heap.size + 1) rfl 78 _ (0, 0) _ HS'.out Try.underlying78 rfl (by rw [cells_size]; kernel_rfl) ?_)
        | (refine wpList_store_row rfl 78 _ _ rfl w.heap.size (cells (says L)) rfl rfl 78 _ HR.out (by rw [cells_size]; kernel_rfl) (by rw [cells_size, cells_size]) (cells_one _) ?_))
      exact bodyPost_ret (Blk.result rfl _ (HR.out.row _) rfl Try.underlying78 rfl (by rw [cells_size]; kernel_rfl)) rfl ⟨rfl, x3.out⟩
    case pos =>
      have hltI : (n : Int) < L.length := by omega
      obtain ⟨d, hd⟩ := get_of_lt hlt
      obtain ⟨g, o, c', hv, hg, hc⟩ := SlAt.dot (HS.out.kept hk.kept) (by omega)
      cases hv
      obtain ⟨c0, c1⟩ := hc n d hd
      have hsay := Lib.hid (says_take hd)
      generalize says (L.take n) = f at *
      obtain ⟨ds, dq⟩ := d
      simp only at c0 c1
      have K0 := Lib.hid (hk.alloc (.cells #[.int .i64 ds, .int .i64 dq] 27))
      have FS := Lib.hid (hs.alloc (.cells #[.int .i64 ds, .int .i64 dq] 27))
      have FR := Lib.hid (hr.alloc (.cells #[.int .i64 ds, .int .i64 dq] 27))
      have BX := Blk.new wr 27 #[.int .i64 ds, .int .i64 dq]
      have x0 : (wr.alloc (.cells #[.int .i64 ds, .int .i64 dq] 27)).cell? ⟨wr.heap.size, 0, none⟩ = some (.int .i64 ds) := BX.cell' (i := 0) rfl
      have x1 : (wr.alloc (.cells #[.int .i64 ds, .int .i64 dq] 27)).cell? ⟨wr.heap.size, 1, none⟩ = some (.int .i64 dq) := BX.cell' (i := 1) rfl
      clear hc hd hs hr hk BX
      by_cases hok : (⟨ds, dq⟩ : Dot).Ok
      case neg =>
        have S1 : Hid (says (L.take (n + 1)) = f) := Lib.hid (by rw [hsay.out, sayS_none hok])
        clear hsay
        by_cases h1 : 1 ≤ ds
        by_cases h2 : ds ≤ 16
        by_cases h3 : 1 ≤ dq
        by_cases h4 : dq ≤ 2147483647
        · exact absurd ⟨h1, h2, h3, h4⟩ hok
        all_goals
          clear hok
          try (have e1 := decide_eq_true h1)
          try (have e2 := decide_eq_true h2)
          try (have e3 := decide_eq_true h3)
          try (have e1 := decide_eq_false h1)
          try (have e2 := decide_eq_false h2)
          try (have e3 := decide_eq_false h3)
          try (have e4 := decide_eq_false h4)
          go_wp2_with fail
          go_region
          go_wp2_with fail
          go_roundw
          focus
            exact ⟨n + 1, by go_num, by omega, by rw [S1.out]; exact FS.out.drewN 1, FR.out.drewN 1, K0.out.drewN 1⟩
          focus
            simp [intOf] <;> omega
      case pos =>
        have hok' := hok
        unfold Dot.Ok at hok'
        simp only at hok'
        obtain ⟨k, rfl⟩ : ∃ k : Nat, ds = k := ⟨ds.toNat, by omega⟩
        have h1 := hok'.1
        have h2 := hok'.2.1
        have h3 := hok'.2.2.1
        have h4 := hok'.2.2.2
        have hkl : k < 17 := by omega
        have hkI : (k : Int) < 17 := by omega
        have hk0 : (0 : Int) ≤ k := by omega
        have s0 := FS.out.cell' (cells_get f hkl)
        have fz := FS.out.frozen k
        have OK := Lib.hid hok
        clear hok' hok
        by_cases h5 : f k < dq
        · have S1 := Lib.hid (sayS_high OK.out h5)
          go_wp2_with fail
          have hsz := FS.out.lt
          go_region
          go_wp2_with fail
          go_roundw
          case rel =>
            refine ⟨n + 1, by go_num, by omega, ?_, (FR.out.far (by show w.heap.size ≠ w.heap.size + 1; omega) _).drewN 1, (K0.out.setCell (by show w.heap.size ≤ w.heap.size + 1; omega) _).drewN 1⟩
            rw [hsay.out, ← S1.out]
            exact (FS.out.set_ k _).drewN 1
          case measure => simp [intOf] <;> omega
        · have S1 : Hid (says (L.take (n + 1)) = f) := Lib.hid (by rw [hsay.out, sayS_low h5])
          clear hsay
          go_wp2_with fail
          go_region
          go_wp2_with fail
          go_roundw
          case rel => exact ⟨n + 1, by go_num, by omega, by rw [S1.out]; exact FS.out.drewN 1, FR.out.drewN 1, K0.out.drewN 1⟩
          case measure => simp [intOf] <;> omega
theorem rsays_any {w : World} {v : Value} {L : List Dot} (h : SlAt dotE w v L) (hb : L.length ≤ 1000000000) : Calls Try.prog 34 #[v] w fun e w' => e = .returned (.agg (cells (says L))) ∧ Kept (fun _ => False) w w' := (rsays_grew h hb).mono fun _ _ ⟨he, hg⟩ => ⟨he, hg.kept⟩
end Go.Proofs.Ytaaeomapbigfgaa
