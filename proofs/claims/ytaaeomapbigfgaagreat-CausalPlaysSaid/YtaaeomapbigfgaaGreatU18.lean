/- A Queue made behind a world, which the calls leave as it was. A queue by what its operations are, without where they lie. hearsaylaw13.known. (*hearsayref13.Queue).Free, Vector; hearsayref13.New. -/
import Derived.Test.YtaaeomapbigfgaaGreatU10
import Derived.Test.YtaaeomapbigfgaaGreatU17
import Derived.Test.YtaaeomapbigfgaaGreatU16
import Derived.Test.YtaaeomapbigfgaaGreatU15
import Derived.Test.YtaaeomapbigfgaaGreatU12
namespace Go.Proofs.YtaaeomapbigfgaaGreat
open Go.RowKit Go.Proofs.YtaaeomapbigfgaaGreat.St
theorem QAt.tight {w : World} {g : Nat} {hold : Int} {s : QS} {F : Nat → Prop} {vv wv ov : Value} (h : QAt w g hold s F vv wv ov) : QAt w g hold s (fun b => F b ∧ b < w.heap.size) vv wv ov :=
  { h with wF := fun b hb => ⟨h.wF b hb, by obtain ⟨cs, hc⟩ := h.wOp b hb; exact hc.lt⟩, oF := fun b hb => ⟨h.oF b hb, h.oB b hb⟩ }
def inF (wb w : World) (b : Nat) : Prop := wb.heap.size ≤ b ∧ b < w.heap.size
/-- a Queue behind wb -/
def QIn (wb w : World) (g : Nat) (hold : Int) (s : QS) : Prop :=
  wb.heap.size ≤ g ∧ Kept (fun _ => False) wb w ∧ ∃ vv wv ov, QAt w g hold s (inF wb w) vv wv ov
section
variable {wb w w' : World} {g : Nat} {hold : Int} {s : QS}
theorem QIn.kept (h : QIn wb w g hold s) (hk : Kept (fun _ => False) w w') : QIn wb w' g hold s := by
  obtain ⟨h1, h2, vv, wv, ov, h3⟩ := h
  exact ⟨h1, h2.trans hk (fun _ _ h => h), vv, wv, ov, (h3.kept hk).wider (fun b hb => ⟨hb.1, Nat.lt_of_lt_of_le hb.2 hk.size⟩)⟩
theorem QIn.lt (h : QIn wb w g hold s) : g < w.heap.size := by obtain ⟨h1, h2, vv, wv, ov, h3⟩ := h; exact h3.head.lt
theorem QIn.wlen (h : QIn wb w g hold s) : s.W.length ≤ 100000 := by obtain ⟨h1, h2, vv, wv, ov, h3⟩ := h; exact h3.wlen
/-- what an offer may write -/
def offF (wb w : World) (g : Nat) : Nat → Prop := QF w g (inF wb w)
theorem offer_in {x : OpV} {D : List Dot} (h : QIn wb w g hold s) (hx : x.Join) (hok : x.dot.Ok) (hD : SlAt dotE w x.deps.v D) (hG : SlAt runE w x.gone.v []) (hDl : D.length ≤ 1000000) (hch : chkV 0 D = 0) (hget : getV D x.dot.site = x.dot.seq - 1) (hW : s.W.length ≤ 10000) (hO : s.O.length ≤ 100000) :
    Calls Tryz.prog 13 #[.pointer (some ⟨g, 0, none⟩), .agg (opA x)] w fun r w' => ∃ a e s', r = .returned (.tuple #[.int .i64 a, .int .i64 0]) ∧ key e = (x.dot, D) ∧ e.v.kind = 3 ∧ OfferIs hold s 0 e a s' ∧ QIn wb w' g hold s' ∧ Kept (offF wb w g) w w' := by
  obtain ⟨h1, h2, vv, wv, ov, h3⟩ := h
  refine (offer_any (c := 0) h3 hD hG hDl (by simp) hW hO (fun w' hk => check_join hx hok (hD.kept hk) hDl hch hget) (fun _ => hok) (fun b hb => hb.2)).mono ?_
  rintro r w' ⟨a, d, z, s', vv', wv', ov', rfl, hoff, hq, hk, _⟩
  refine ⟨a, _, s', rfl, rfl, hx.kind, hoff, ⟨h1, h2.over hk (fun b hb => ?_), vv', wv', ov', hq.tight.wider (fun b hb => ⟨?_, hb.2⟩)⟩, hk⟩
  · rcases hb with rfl | ⟨hb, _⟩
    · exact h1
    · exact hb.1
  · rcases hb.1 with hb | hb
    · exact hb.1
    · exact Nat.le_trans h2.size hb
theorem new_in {v : Value} {V : List Dot} (hv : SlAt dotE w v V) (hl : V.length ≤ 1000) (hc : newC hold V = 0) :
    Calls Tryz.prog 9 #[.int .i64 hold, v] w fun r w' => ∃ g, r = .returned (.tuple #[.pointer (some ⟨g, 0, none⟩), .int .i64 0]) ∧ QIn w w' g hold ⟨V, [], []⟩ := by
  refine (new_any (hold := hold) hv (by omega)).mono ?_
  rintro r w' ⟨hk, ⟨hne, _⟩ | ⟨_, g, v', rfl, hg, hb, ho⟩⟩
  · exact absurd hc hne
  · refine ⟨g, rfl, hg, hk, v', .slice none 0 0, .slice none 0 0, ⟨hb, owns_lower ho (Nat.zero_le _), hl, World.ownsRow_nil _ _ _ _, by simp, OutAt.nil _ _, by simp, fun b hb => by simp [Value.ownBlock] at hb, fun b hb => by simp [Value.ownBlock] at hb, fun b hb => by simp [Value.ownBlock] at hb, fun b hb => by simp [Value.ownBlock] at hb, by simp⟩⟩
theorem take_in (h : QIn wb w g hold s) :
    Calls Tryz.prog 14 #[.pointer (some ⟨g, 0, none⟩)] w fun r w' => Kept (fun x => x = g) w w' ∧ ((s.O = [] ∧ r = .returned (.tuple #[.agg zeroOp, .bool false]) ∧ QIn wb w' g hold s) ∨
      ∃ e O', s.O = e :: O' ∧ r = .returned (.tuple #[.agg (opA e.v), .bool true]) ∧ QIn wb w' g hold ⟨s.V, s.W, O'⟩) := by
  have h0 := h
  obtain ⟨h1, h2, vv, wv, ov, h3⟩ := h
  refine (take_any h3.head h3.out (by have := h3.olen; omega)).mono ?_
  rintro r w' (⟨hn, rfl, hk⟩ | ⟨e, O', ov', hO, rfl, hb, ho, hob, hk⟩)
  · exact ⟨hk.mono (fun _ _ h => h.elim), .inl ⟨hn, rfl, h0.kept hk⟩⟩
  · refine ⟨hk, .inr ⟨e, O', hO, rfl, h1, h2.over hk (fun b hb => by rw [hb]; exact h1), vv, wv, ov', ?_⟩⟩
    have hsp : Spares w (fun x => x = g) := fun b cs e => by subst e; exact ⟨fun hb => h3.head.ne_ hb (of_decide_eq_true (by kernel_rfl)) rfl, fun hb => h3.head.ne_ hb (of_decide_eq_true (by kernel_rfl)) rfl⟩
    exact ⟨hb, owns_keep h3.vec hk (owns_far h3.vec h3.head (of_decide_eq_true (by kernel_rfl))), h3.vlen, owns_keep h3.wait hk (owns_far h3.wait h3.head (of_decide_eq_true (by kernel_rfl))), h3.wlen, ho, by have := h3.olen; rw [hO] at this; simp at this; show O'.length ≤ _; omega,
      fun b hb => ⟨(h3.wF b hb).1, Nat.lt_of_lt_of_le (h3.wF b hb).2 hk.size⟩, fun b hb => by rw [hob] at hb; exact ⟨(h3.oF b hb).1, Nat.lt_of_lt_of_le (h3.oF b hb).2 hk.size⟩, fun b hb => by rw [hob]; exact h3.apart b hb, fun b hb => by rw [hob] at hb; exact Nat.lt_of_lt_of_le (h3.oB b hb) hk.size,
      fun y hy => (h3.ents y (by rcases List.mem_append.1 hy with hy | hy; exact List.mem_append.2 (.inl hy); exact List.mem_append.2 (.inr (by rw [hO]; exact List.mem_cons_of_mem _ hy)))).keep hk hsp⟩
theorem waits_in (h : QIn wb w g hold s) :
    Calls Tryz.prog 16 #[.pointer (some ⟨g, 0, none⟩)] w fun r w' => ∃ v' L, r = .returned v' ∧ L.Perm (dotsOf s.W) ∧ DSorted L ∧ w'.ownsRow w.heap.size 28 2 v' L.length (dotE.flat L) ∧ Kept (fun _ => False) w w' := by
  obtain ⟨h1, h2, vv, wv, ov, h3⟩ := h
  exact waits_any h3.head h3.wait (by have := h3.wlen; omega)
theorem vector_in (h : QIn wb w g hold s) :
    Calls Tryz.prog 18 #[.pointer (some ⟨g, 0, none⟩)] w fun r w' => ∃ v', r = .returned v' ∧ w'.ownsRow w.heap.size 28 2 v' s.V.length (dotE.flat s.V) ∧ Kept (fun _ => False) w w' := by
  obtain ⟨h1, h2, vv, wv, ov, h3⟩ := h
  exact vector_any h3.head (owns_slAt (E := dotE) h3.vec) (by have := h3.vlen; omega)
theorem free_in (h : QIn wb w g hold s) (hh1 : -1000000 ≤ hold) (hh2 : hold ≤ 1000000) :
    Calls Tryz.prog 17 #[.pointer (some ⟨g, 0, none⟩)] w fun r w' => r = .returned (.int .i64 (hold - s.W.length)) ∧ Grew w w' := by
  obtain ⟨h1, h2, vv, wv, ov, h3⟩ := h
  obtain ⟨a, c, rfl⟩ := owns_sl h3.wait
  exact free_any h3.head hh1 hh2 (by have := h3.wlen; omega)
end
end Go.Proofs.YtaaeomapbigfgaaGreat
namespace Go.Proofs.YtaaeomapbigfgaaGreat
open Go.Proofs.YtaaeomapbigfgaaGreat.St
structure AQ where
  V : List Dot
  W : List Key
  O : List Key
deriving DecidableEq
def QS.abs (s : QS) : AQ := ⟨s.V, s.W.map key, s.O.map key⟩
def agr (W : List Key) : Nat → Nat
  | 0 => 0
  | n + 1 => match W[n]?, W[agr W n]? with
    | some e, some f => if 0 < farV e.1 f.1 e.2 f.2 then n else agr W n
    | _, _ => agr W n
def adrain : Nat → AQ → AQ
  | 0, s => s
  | n + 1, s => match s.W.findIdx? (fun k => decide (Ent.can s.V k.1 k.2)) with
    | none => s
    | some i => match s.W[i]? with
      | none => s
      | some e => adrain n ⟨addV s.V e.1, s.W.eraseIdx i, s.O ++ [e]⟩
def aoffer (hold : Int) (s : AQ) (e : Key) : Int × AQ :=
  if hasV s.V e.1 ∨ (s.W.any fun k => decide (k.1 = e.1)) = true then (3, s) else
  if Ent.can s.V e.1 e.2 then (1, adrain s.W.length ⟨addV s.V e.1, s.W, s.O ++ [e]⟩) else
  if (s.W.length : Int) + 1 ≤ hold then (2, ⟨s.V, s.W ++ [e], s.O⟩) else
  (match (s.W ++ [e])[agr (s.W ++ [e]) (s.W.length + 1)]? with
    | some f => (if f.1 = e.1 then 4 else 2)
    | none => 2, ⟨s.V, (s.W ++ [e]).eraseIdx (agr (s.W ++ [e]) (s.W.length + 1)), s.O⟩)
theorem grI_abs (W : List Ent) : ∀ n, grI W n = agr (W.map key) n
  | 0 => rfl
  | n + 1 => by
    unfold grI agr
    rw [grI_abs W n, List.getElem?_map, List.getElem?_map]
    cases h1 : W[n]? with
    | none => rfl
    | some e =>
      cases h2 : W[agr (W.map key) n]? with
      | none => rfl
      | some f => rfl
theorem drain_abs : ∀ (n : Nat) (s : QS), (drain n s).abs = adrain n s.abs
  | 0, _ => rfl
  | n + 1, s => by
    unfold drain adrain
    have hf : s.abs.W.findIdx? (fun k => decide (Ent.can s.abs.V k.1 k.2)) = s.W.findIdx? (Ent.canB s.V) := by
      show (s.W.map key).findIdx? _ = _
      rw [List.findIdx?_map]
      rfl
    rw [hf]
    cases h1 : s.W.findIdx? (Ent.canB s.V) with
    | none => rfl
    | some i =>
      have hg : s.abs.W[i]? = s.W[i]?.map key := List.getElem?_map
      cases h2 : s.W[i]? with
      | none => simp only [hg, h2]; rfl
      | some e =>
        simp only [hg, h2, Option.map_some]
        rw [drain_abs n (s.take i e)]
        congr 1
        show AQ.mk _ ((s.W.eraseIdx i).map key) ((s.O ++ [e]).map key) = AQ.mk _ ((s.W.map key).eraseIdx i) (s.O.map key ++ [key e])
        rw [map_erase, List.map_append]
        rfl
theorem has_abs (W : List Ent) (d : Dot) : hasDot W d = (W.map key).any fun k => decide (k.1 = d) := by
  unfold hasDot
  rw [List.any_map]
  rfl
theorem OfferIs.abs {hold a : Int} {s s' : QS} {e : Ent} (h : OfferIs hold s 0 e a s') : (a, s'.abs) = aoffer hold s.abs (key e) := by
  unfold aoffer
  have e0 : (s.abs.W.any fun k => decide (k.1 = (key e).1)) = hasDot s.W e.v.dot := (has_abs s.W e.v.dot).symm
  have e1 : s.abs.W.length = s.W.length := List.length_map _
  have e2 : s.abs.W ++ [key e] = (s.W ++ [e]).map key := by rw [List.map_append]; rfl
  rw [e0, e1, e2, ← grI_abs]
  rcases h with ⟨h, _⟩ | ⟨_, hhad, rfl, rfl⟩ | ⟨_, hnot, hc, rfl, rfl⟩ | ⟨_, hnot, hc, hr, rfl, rfl⟩ | ⟨_, hnot, hc, hr, f, hf, rfl, rfl⟩
  · exact absurd rfl h
  · rw [if_pos (show hasV s'.abs.V (key e).1 ∨ _ from hhad)]
  · rw [if_neg (show ¬ (hasV s.abs.V (key e).1 ∨ _) from hnot), if_pos (show Ent.can s.abs.V (key e).1 (key e).2 from hc), drain_abs]
    congr 2
    show AQ.mk _ _ ((s.O ++ [e]).map key) = _
    rw [List.map_append]
    rfl
  · rw [if_neg (show ¬ (hasV s.abs.V (key e).1 ∨ _) from hnot), if_neg (show ¬ Ent.can s.abs.V (key e).1 (key e).2 from hc), if_pos hr]
    congr 1
  · rw [if_neg (show ¬ (hasV s.abs.V (key e).1 ∨ _) from hnot), if_neg (show ¬ Ent.can s.abs.V (key e).1 (key e).2 from hc), if_neg (show ¬ ((s.W.length : Int) + 1 ≤ hold) by omega), List.getElem?_map, hf, map_erase]
    rfl
abbrev kn (a b : Int) (D : List Dot) : Key := (⟨a, b⟩, D)
theorem known1 : aoffer 2 ⟨[], [], []⟩ (kn 1 1 []) = (1, ⟨[⟨1, 1⟩], [], [kn 1 1 []]⟩) := by decide +kernel
theorem known2 : aoffer 2 ⟨[⟨1, 1⟩], [], [kn 1 1 []]⟩ (kn 1 3 [⟨1, 2⟩]) = (2, ⟨[⟨1, 1⟩], [kn 1 3 [⟨1, 2⟩]], [kn 1 1 []]⟩) := by decide +kernel
theorem known3 : aoffer 2 ⟨[⟨1, 1⟩], [kn 1 3 [⟨1, 2⟩]], [kn 1 1 []]⟩ (kn 2 1 [⟨1, 3⟩]) = (2, ⟨[⟨1, 1⟩], [kn 1 3 [⟨1, 2⟩], kn 2 1 [⟨1, 3⟩]], [kn 1 1 []]⟩) := by decide +kernel
theorem known4 : aoffer 2 ⟨[⟨1, 1⟩], [kn 1 3 [⟨1, 2⟩], kn 2 1 [⟨1, 3⟩]], [kn 1 1 []]⟩ (kn 2 2 [⟨1, 3⟩, ⟨2, 1⟩]) = (4, ⟨[⟨1, 1⟩], [kn 1 3 [⟨1, 2⟩], kn 2 1 [⟨1, 3⟩]], [kn 1 1 []]⟩) := by decide +kernel
theorem known5 : aoffer 2 ⟨[⟨1, 1⟩], [kn 1 3 [⟨1, 2⟩], kn 2 1 [⟨1, 3⟩]], [kn 1 1 []]⟩ (kn 3 1 [⟨1, 2⟩]) = (2, ⟨[⟨1, 1⟩], [kn 1 3 [⟨1, 2⟩], kn 3 1 [⟨1, 2⟩]], [kn 1 1 []]⟩) := by decide +kernel
theorem known6 : aoffer 2 ⟨[⟨1, 1⟩], [kn 1 3 [⟨1, 2⟩], kn 3 1 [⟨1, 2⟩]], [kn 1 1 []]⟩ (kn 1 2 [⟨1, 1⟩]) = (1, ⟨[⟨1, 3⟩, ⟨3, 1⟩], [], [kn 1 1 [], kn 1 2 [⟨1, 1⟩], kn 1 3 [⟨1, 2⟩], kn 3 1 [⟨1, 2⟩]]⟩) := by decide +kernel
theorem dsorted_eq {L M : List Dot} (hp : L.Perm M) (h1 : DSorted L) (h2 : DSorted M) : L = M := by
  refine List.Perm.eq_of_pairwise (le := fun a b : Dot => ¬ b.lt a) (fun a b _ _ h3 h4 => ?_) h1 h2 hp
  have h3' : ¬ b.id.lt a.id := h3
  have h4' : ¬ a.id.lt b.id := h4
  unfold ID.lt at h3' h4'
  unfold Dot.id at h3' h4'
  rw [Dot.ext_iff]
  simp only at h3' h4'
  omega
end Go.Proofs.YtaaeomapbigfgaaGreat
namespace Go.Proofs.YtaaeomapbigfgaaGreat
open Go.RowKit Go.Proofs.YtaaeomapbigfgaaGreat.St
open Go.Sort (grow)
theorem joinV_join (d : Dot) (s : Sl) : (joinV d s).Join := ⟨rfl, rfl, rfl, rfl, rfl, (by decide : (1 : Int) ≤ 9 ∧ (9 : Int) ≤ 16)⟩
theorem abs_len {s : QS} {A : AQ} (h : s.abs = A) : s.W.length = A.W.length ∧ s.O.length = A.O.length ∧ s.V = A.V := by
  subst h
  exact ⟨(List.length_map _).symm, (List.length_map _).symm, rfl⟩
theorem SlAt.nil {α : Type} {E : Enc α} (w : World) : SlAt E w (.slice none 0 0) ([] : List α) := owns_slAt (base := 0) (t := 0) (n := 0) (World.ownsRow_nil _ _ _ _)
theorem QIn.spares {wb w : World} {g : Nat} {hold : Int} {s : QS} (h : QIn wb w g hold s) : Spares w (offF wb w g) := by
  obtain ⟨h1, h2, vv, wv, ov, h3⟩ := h
  exact h3.spares
theorem owns_spare {w w' : World} {S : Nat → Prop} {base n : Nat} {v : Value} {xs : List Value} (h : w.ownsRow base 28 2 v n xs) (hk : Kept S w w') (hs : Spares w S) : w'.ownsRow base 28 2 v n xs :=
  owns_keep h hk fun b hb hS => by obtain ⟨cs, hc⟩ := owns_spared h b hb; exact (hs b cs hS).1 hc
theorem sum49 : sumV [⟨1, 3⟩, ⟨3, 1⟩] = 4 := by decide +kernel
/-- one offer of a join to a queue that is known -/
theorem offer_known {wb w : World} {g : Nat} {s : QS} {A : AQ} {d : Dot} {sl : Sl} {D : List Dot} {a : Int} {B : AQ} (h : QIn wb w g 2 s) (hA : s.abs = A) (hok : d.Ok) (hD : SlAt dotE w sl.v D) (hch : chkV 0 D = 0) (hget : getV D d.site = d.seq - 1) (hDl : D.length ≤ 1000000)
    (hW : A.W.length ≤ 10000) (hO : A.O.length ≤ 100000) (hoff : aoffer 2 A (d, D) = (a, B)) :
    Calls Tryz.prog 13 #[.pointer (some ⟨g, 0, none⟩), .agg (opA (joinV d sl))] w fun r w' => r = .returned (.tuple #[.int .i64 a, .int .i64 0]) ∧ ∃ s', s'.abs = B ∧ QIn wb w' g 2 s' ∧ Kept (offF wb w g) w w' := by
  obtain ⟨l1, l2, _⟩ := abs_len hA
  refine (offer_in h (joinV_join d sl) hok hD (SlAt.nil w) hDl hch hget (by omega) (by omega)).mono ?_
  rintro r w' ⟨a', e, s', rfl, hk, hkind, ho, hq, hkk⟩
  have := ho.abs
  rw [hk, hA] at this
  have h2 : (a', s'.abs) = (a, B) := this.trans hoff
  injection h2 with h3 h4
  exact ⟨by rw [h3], s', h4, hq, hkk⟩
set_option maxRecDepth 100000 in
set_option maxHeartbeats 8000000 in
theorem known_any (w : World) : Calls Tryz.prog 8 #[] w fun r w' => r = .returned (.bool true) ∧ Kept (fun _ => False) w w' := by
  have HN := Lib.hid (new_in (w := w) (hold := 2) (SlAt.nil w) (by simp) (show newC 2 [] = 0 by decide))
  go_enter Tryz.func8, Tryz.ntmps8
  go_upto_region 4 with (go_at_call 9; refine HN.out.mono ?_; rintro r w0 ⟨g, rfl, hq0⟩)
  have Q0 := Lib.hid hq0
  have A0 : Hid (QS.abs ⟨[], [], []⟩ = ⟨[], [], []⟩) := Lib.hid rfl
  clear hq0 HN
  have QL1 := Q0
  go_upto_region 5 with (first
    | (go_at_call 26; refine (join_any ⟨1, 1⟩ ⟨none, 0, 0⟩).mono ?_; rintro r wj ⟨rfl, hkj⟩; have QJ1 := Lib.hid (QL1.out.kept hkj); have DJ1 : Hid (SlAt dotE wj (Sl.v ⟨none, 0, 0⟩) []) := Lib.hid (SlAt.nil _))
    | (go_at_call 13; refine (offer_known (d := ⟨1, 1⟩) (sl := ⟨none, 0, 0⟩) (D := []) QJ1.out A0.out (by decide) DJ1.out (by decide) (by decide) (by simp) (by simp) (by simp) known1).mono ?_; rintro r w1 ⟨rfl, s1, ha1, hq1, hko⟩))
  have Q1 := Lib.hid hq1
  have A1 := Lib.hid ha1
  clear hq1 ha1 hko hkj QL1 QJ1 DJ1 Q0 A0
  have kL2 : Kept (fun _ => False) w1 (w1.alloc (.cells #[.int .i64 1, .int .i64 2] 28)) := (Kept.refl _ _).alloc _
  have LD2 := Lib.hid (SlAt.lit (E := dotE) (w := w1) (t := 28) ([⟨1, 2⟩] : List Dot) #[.int .i64 1, .int .i64 2] rfl (by simp [maxLen]))
  have QL2 := Lib.hid (Q1.out.kept kL2)
  go_upto_region 6 with (first
    | (go_at_call 26; refine (join_any ⟨1, 3⟩ ⟨some ⟨w1.heap.size, 0, none⟩, 1, 1⟩).mono ?_; rintro r wj ⟨rfl, hkj⟩; have QJ2 := Lib.hid (QL2.out.kept hkj); have DJ2 : Hid (SlAt dotE wj (Sl.v ⟨some ⟨w1.heap.size, 0, none⟩, 1, 1⟩) [⟨1, 2⟩]) := Lib.hid (LD2.out.kept hkj))
    | (go_at_call 13; refine (offer_known (d := ⟨1, 3⟩) (sl := ⟨some ⟨w1.heap.size, 0, none⟩, 1, 1⟩) (D := [⟨1, 2⟩]) QJ2.out A1.out (by decide) DJ2.out (by decide) (by decide) (by simp) (by simp) (by simp) known2).mono ?_; rintro r w2 ⟨rfl, s2, ha2, hq2, hko⟩))
  have Q2 := Lib.hid hq2
  have A2 := Lib.hid ha2
  clear hq2 ha2 hko hkj QL2 QJ2 DJ2 Q1 A1
  clear kL2 LD2
  have kL3 : Kept (fun _ => False) w2 (w2.alloc (.cells #[.int .i64 1, .int .i64 3] 28)) := (Kept.refl _ _).alloc _
  have LD3 := Lib.hid (SlAt.lit (E := dotE) (w := w2) (t := 28) ([⟨1, 3⟩] : List Dot) #[.int .i64 1, .int .i64 3] rfl (by simp [maxLen]))
  have QL3 := Lib.hid (Q2.out.kept kL3)
  go_upto_region 7 with (first
    | (go_at_call 26; refine (join_any ⟨2, 1⟩ ⟨some ⟨w2.heap.size, 0, none⟩, 1, 1⟩).mono ?_; rintro r wj ⟨rfl, hkj⟩; have QJ3 := Lib.hid (QL3.out.kept hkj); have DJ3 : Hid (SlAt dotE wj (Sl.v ⟨some ⟨w2.heap.size, 0, none⟩, 1, 1⟩) [⟨1, 3⟩]) := Lib.hid (LD3.out.kept hkj))
    | (go_at_call 13; refine (offer_known (d := ⟨2, 1⟩) (sl := ⟨some ⟨w2.heap.size, 0, none⟩, 1, 1⟩) (D := [⟨1, 3⟩]) QJ3.out A2.out (by decide) DJ3.out (by decide) (by decide) (by simp) (by simp) (by simp) known3).mono ?_; rintro r w3 ⟨rfl, s3, ha3, hq3, hko⟩))
  have Q3 := Lib.hid hq3
  have A3 := Lib.hid ha3
  clear hq3 ha3 hko hkj QL3 QJ3 DJ3 Q2 A2
  clear kL3 LD3
  have kL4 : Kept (fun _ => False) w3 (w3.alloc (.cells #[.int .i64 1, .int .i64 3, .int .i64 2, .int .i64 1] 28)) := (Kept.refl _ _).alloc _
  have LD4 := Lib.hid (SlAt.lit (E := dotE) (w := w3) (t := 28) ([⟨1, 3⟩, ⟨2, 1⟩] : List Dot) #[.int .i64 1, .int .i64 3, .int .i64 2, .int .i64 1] rfl (by simp [maxLen]))
  have QL4 := Lib.hid (Q3.out.kept kL4)
  go_upto_region 8 with (first
    | (go_at_call 26; refine (join_any ⟨2, 2⟩ ⟨some ⟨w3.heap.size, 0, none⟩, 2, 2⟩).mono ?_; rintro r wj ⟨rfl, hkj⟩; have QJ4 := Lib.hid (QL4.out.kept hkj); have DJ4 : Hid (SlAt dotE wj (Sl.v ⟨some ⟨w3.heap.size, 0, none⟩, 2, 2⟩) [⟨1, 3⟩, ⟨2, 1⟩]) := Lib.hid (LD4.out.kept hkj))
    | (go_at_call 13; refine (offer_known (d := ⟨2, 2⟩) (sl := ⟨some ⟨w3.heap.size, 0, none⟩, 2, 2⟩) (D := [⟨1, 3⟩, ⟨2, 1⟩]) QJ4.out A3.out (by decide) DJ4.out (by decide) (by decide) (by simp) (by simp) (by simp) known4).mono ?_; rintro r w4 ⟨rfl, s4, ha4, hq4, hko⟩))
  have Q4 := Lib.hid hq4
  have A4 := Lib.hid ha4
  clear hq4 ha4 hko hkj QL4 QJ4 DJ4 Q3 A3
  clear kL4 LD4
  have kL5 : Kept (fun _ => False) w4 (w4.alloc (.cells #[.int .i64 1, .int .i64 2] 28)) := (Kept.refl _ _).alloc _
  have LD5 := Lib.hid (SlAt.lit (E := dotE) (w := w4) (t := 28) ([⟨1, 2⟩] : List Dot) #[.int .i64 1, .int .i64 2] rfl (by simp [maxLen]))
  have QL5 := Lib.hid (Q4.out.kept kL5)
  go_upto_region 9 with (first
    | (go_at_call 26; refine (join_any ⟨3, 1⟩ ⟨some ⟨w4.heap.size, 0, none⟩, 1, 1⟩).mono ?_; rintro r wj ⟨rfl, hkj⟩; have QJ5 := Lib.hid (QL5.out.kept hkj); have DJ5 : Hid (SlAt dotE wj (Sl.v ⟨some ⟨w4.heap.size, 0, none⟩, 1, 1⟩) [⟨1, 2⟩]) := Lib.hid (LD5.out.kept hkj))
    | (go_at_call 13; refine (offer_known (d := ⟨3, 1⟩) (sl := ⟨some ⟨w4.heap.size, 0, none⟩, 1, 1⟩) (D := [⟨1, 2⟩]) QJ5.out A4.out (by decide) DJ5.out (by decide) (by decide) (by simp) (by simp) (by simp) known5).mono ?_; rintro r w5 ⟨rfl, s5, ha5, hq5, hko⟩))
  have Q5 := Lib.hid hq5
  have A5 := Lib.hid ha5
  clear hq5 ha5 hko hkj QL5 QJ5 DJ5 Q4 A4
  clear kL5 LD5
  have HWT := Lib.hid (waits_in Q5.out)
  go_upto_region 10 with (go_at_call 16; refine HWT.out.mono ?_; rintro r wv ⟨v6, L6, rfl, hp6, hs6, ho6, hk6⟩)
  have hL6 : L6 = [⟨1, 3⟩, ⟨3, 1⟩] := dsorted_eq (hp6.trans (by
    have h := congrArg (fun A => A.W.map (·.1)) A5.out
    have h2 : dotsOf s5.W = (s5.abs.W.map (·.1)) := by show _ = (s5.W.map key).map _; rw [List.map_map]; rfl
    rw [h2]
    exact h ▸ List.Perm.refl _)) hs6 (by simp [DSorted, Dot.lt, Dot.id, ID.lt])
  have Q5' := Lib.hid (Q5.out.kept hk6)
  have W6 := Lib.hid ho6
  clear hp6 hs6 ho6 Q5 hk6 HWT
  have Q5 := Q5'
  clear Q5'
  rw [hL6] at W6
  clear hL6
  have kL6 : Kept (fun _ => False) wv (wv.alloc (.cells #[.int .i64 1, .int .i64 1] 28)) := (Kept.refl _ _).alloc _
  have LD6 := Lib.hid (SlAt.lit (E := dotE) (w := wv) (t := 28) ([⟨1, 1⟩] : List Dot) #[.int .i64 1, .int .i64 1] rfl (by simp [maxLen]))
  have QL6 := Lib.hid (Q5.out.kept kL6)
  have WL := Lib.hid (owns_keep W6.out kL6 (fun _ _ h => h))
  go_upto_region 11 with (first
    | (go_at_call 26; refine (join_any ⟨1, 2⟩ ⟨some ⟨wv.heap.size, 0, none⟩, 1, 1⟩).mono ?_; rintro r wj ⟨rfl, hkj⟩; have QJ6 := Lib.hid (QL6.out.kept hkj); have DJ6 : Hid (SlAt dotE wj (Sl.v ⟨some ⟨wv.heap.size, 0, none⟩, 1, 1⟩) [⟨1, 1⟩]) := Lib.hid (LD6.out.kept hkj); have WJ := Lib.hid (owns_keep WL.out hkj (fun _ _ h => h)))
    | (go_at_call 13; refine (offer_known (d := ⟨1, 2⟩) (sl := ⟨some ⟨wv.heap.size, 0, none⟩, 1, 1⟩) (D := [⟨1, 1⟩]) QJ6.out A5.out (by decide) DJ6.out (by decide) (by decide) (by simp) (by simp) (by simp) known6).mono ?_; rintro r w6 ⟨rfl, s6, ha6, hq6, hko⟩; have W7 := Lib.hid (owns_spare WJ.out hko QJ6.out.spares)))
  have Q6 := Lib.hid hq6
  have A6 := Lib.hid ha6
  clear hq6 ha6 hko hkj QL6 QJ6 DJ6 Q5 A5
  clear kL6 LD6 WL WJ W6
  have HTK := Lib.hid ((take_in Q6.out).mono (R' := fun r w' => ∃ (e : Ent) (O' : List Ent), r = .returned (.tuple #[.agg (opA e.v), .bool true]) ∧ e.v.dot.seq = 1 ∧ QIn w w' g 2 ⟨s6.V, s6.W, O'⟩ ∧ w'.ownsRow w5.heap.size 28 2 v6 2 (dotE.flat [⟨1, 3⟩, ⟨3, 1⟩])) (fun r w' h => by
    have hOm : s6.O.map key = [kn 1 1 [], kn 1 2 [⟨1, 1⟩], kn 1 3 [⟨1, 2⟩], kn 3 1 [⟨1, 2⟩]] := congrArg AQ.O A6.out
    obtain ⟨hk, ⟨hn, _⟩ | ⟨e, O', hO, rfl, hq⟩⟩ := h
    · rw [hn] at hOm; cases hOm
    · rw [hO] at hOm
      have he : key e = kn 1 1 [] := by injection hOm
      have hd : e.v.dot = ⟨1, 1⟩ := congrArg Prod.fst he
      exact ⟨e, O', rfl, by rw [hd], hq, owns_spare W7.out (hk.mono (S' := offF w w6 g) (fun b _ e => .inl e)) Q6.out.spares⟩))
  have hl6 := Lib.hid (show s6.W.length = 0 from (abs_len A6.out).1)
  have hV6 := Lib.hid (show s6.V = [⟨1, 3⟩, ⟨3, 1⟩] from (abs_len A6.out).2.2)
  go_upto_region 12 with (first
    | (go_at_call 14; refine HTK.out.mono ?_; rintro r w7 ⟨e, O', rfl, hseq, hq7, ho7⟩; have B7 := Lib.hid (Blk.new w7 42 zeroOp); have SEQ := Lib.hid hseq; clear hseq)
    | (refine wpList_store_row rfl 42 _ _ rfl w7.heap.size (opA e.v) rfl rfl 42 zeroOp B7.out (by rw [opA_size]; exact size_op) (by rw [opA_size]; rfl) (opA_one _) ?_))
  have k8 : Kept (fun _ => False) w7 ((w7.alloc (.cells zeroOp 42)).setRow w7.heap.size (opA e.v)) := ((Kept.refl _ _).alloc _).setRow (fun h => by omega) _
  have B8 := Lib.hid (B7.out.row (opA e.v))
  have Q8 := Lib.hid (hq7.kept k8)
  have W8 := Lib.hid (owns_keep ho7 k8 (fun _ _ h => h))
  have hbx : w7.heap.size < ((w7.alloc (.cells zeroOp 42)).setRow w7.heap.size (opA e.v)).heap.size := B8.out.lt
  clear k8 B7 hq7 ho7 HTK A6 W7 Q6
  generalize (w7.alloc (.cells zeroOp 42)).setRow w7.heap.size (opA e.v) = w8 at *
  have kM : Kept (fun _ => False) w8 (w8.alloc (.cells #[.int .i64 1, .int .i64 3, .int .i64 3, .int .i64 1] 28)) := (Kept.refl _ _).alloc _
  have LDM := SlAt.lit (E := dotE) (w := w8) (t := 28) ([⟨1, 3⟩, ⟨3, 1⟩] : List Dot) #[.int .i64 1, .int .i64 3, .int .i64 3, .int .i64 1] rfl (by simp [maxLen])
  have HDT := Lib.hid ((dots_any (owns_slAt (E := dotE) (owns_keep W8.out kM (fun _ _ h => h))) LDM (by simp)).mono (R' := fun r w' => r = .returned (.bool true) ∧ w'.cell? ⟨w7.heap.size, 1, none⟩ = some (.int .i64 1) ∧ QIn w w' g 2 ⟨s6.V, s6.W, O'⟩) (fun r w' h => by
    obtain ⟨rfl, q, rfl⟩ := h
    have kk : Kept (fun _ => False) w8 ((w8.alloc (.cells #[.int .i64 1, .int .i64 3, .int .i64 3, .int .i64 1] 28)).drewN q) := kM.drewN q
    refine ⟨rfl, ?_, Q8.out.kept kk⟩
    have hc := kk.cell (show w8.cell? ⟨w7.heap.size, 1, none⟩ = some (.int .i64 e.v.dot.seq) from B8.out.cell' (i := 1) rfl)
    rw [SEQ.out] at hc
    exact hc))
  clear kM LDM B8 W8 Q8 SEQ
  go_wp2_with (first
    | (go_at_call 27; refine HDT.out.mono ?_; rintro r w9 ⟨rfl, x1, hq9⟩; have HF := Lib.hid ((free_in hq9 (by decide) (by decide)).mono (R' := fun r w' => r = .returned (.int .i64 2) ∧ Kept (fun _ => False) w9 w') (fun r w' h => ⟨h.1.trans (by show Ending.returned (.int .i64 ((2 : Int) - (s6.W.length : Nat))) = _; rw [hl6.out]; rfl), h.2.kept⟩)); have Q9 := Lib.hid hq9; clear hq9)
    | (go_at_call 17; refine HF.out.mono ?_; rintro r wf ⟨rfl, hkf⟩; have Qf := Lib.hid (Q9.out.kept hkf))
    | (go_at_call 18; refine (vector_in Qf.out).mono ?_; rintro r wv2 ⟨v9, rfl, ho9, hk9⟩; have Qv := Lib.hid (Qf.out.kept hk9); have hsl9 : SlAt dotE wv2 v9 [⟨1, 3⟩, ⟨3, 1⟩] := by { have h := owns_slAt (E := dotE) ho9; rw [hV6.out] at h; exact h }; have S9 := Lib.hid ((rsum_any hsl9 (by simp)).mono (R' := fun r w' => r = .returned (.int .i64 4) ∧ Kept (fun _ => False) wv2 w') (fun r w' h => ⟨h.1.trans (congrArg (fun n => Ending.returned (.int .i64 n)) sum49), h.2⟩)); clear ho9)
    | (go_at_call 28; refine S9.out.mono ?_; rintro r w10 ⟨rfl, hk10⟩))
  go_ret
  exact ⟨rfl, (Qv.out.kept hk10).2.1⟩
end Go.Proofs.YtaaeomapbigfgaaGreat
namespace Go.Proofs.YtaaeomapbigfgaaGreat
open Go.RowKit Go.Proofs.YtaaeomapbigfgaaGreat.St
open Go.Sort (grow)
set_option maxRecDepth 100000 in
set_option maxHeartbeats 1000000 in
theorem rfree_any {w : World} {g : Nat} {hold : Int} {vv ov : Value} {a : Option Addr} {n c : Nat} (hq : Blk w g 51 #[.int .i64 hold, vv, .slice a n c, ov]) (h1 : -1000000 ≤ hold) (h2 : hold ≤ 1000000) (hn : n ≤ 1000000) :
    Calls Tryz.prog 61 #[.pointer (some ⟨g, 0, none⟩)] w fun r w' => r = .returned (.int .i64 (hold - n)) ∧ Grew w w' := by
  have q0 : w.cell? ⟨g, 0, none⟩ = some (.int .i64 hold) := hq.cell' (i := 0) rfl
  have q2 : w.cell? ⟨g, 2, none⟩ = some (.slice a n c) := hq.cell' (i := 2) rfl
  have hw : IntKind.i64.wrap (hold - n) = hold - n := IntWalk.i64_in _ (by omega)
  have HH := Lib.hid hw
  clear hq
  go_enter Tryz.func61, Tryz.ntmps61
  go_wp2_with fail
  go_region
  all_goals
    go_wp2_with fail
    go_ret
    exact ⟨rfl, (Grew.refl _).drew⟩
set_option maxRecDepth 100000 in
set_option maxHeartbeats 1000000 in
theorem rvector_any {w : World} {g : Nat} {h0 vv wv ov : Value} {V : List Dot} (hq : Blk w g 51 #[h0, vv, wv, ov]) (hv : SlAt dotE w vv V) (hl : V.length ≤ 1000000000) (hc : chkV 0 V = 0) :
    Calls Tryz.prog 62 #[.pointer (some ⟨g, 0, none⟩)] w fun r w' => ∃ v', r = .returned v' ∧ w'.ownsRow w.heap.size 28 2 v' V.length (dotE.flat V) ∧ Kept (fun _ => False) w w' := by
  have q1 : w.cell? ⟨g, 1, none⟩ = some vv := hq.cell' (i := 1) rfl
  have hm := rmerge_any hv (SlAt.nil w) hl (by simp)
  rw [merge_id hc] at hm
  have HC := Lib.hid hm
  clear hq hv hm hc
  go_enter Tryz.func62, Tryz.ntmps62
  go_wp2_with (go_at_call 19; refine HC.out.mono ?_; rintro r w1 ⟨v', rfl, ho, hk⟩)
  go_ret
  exact ⟨v', rfl, ho, hk⟩
set_option maxRecDepth 100000 in
set_option maxHeartbeats 1000000 in
theorem rnew_any {w : World} {hold : Int} {v : Value} {V : List Dot} (hv : SlAt dotE w v V) (hl : V.length ≤ 1000000) :
    Calls Tryz.prog 10 #[.int .i64 hold, v] w fun r w' => Kept (fun _ => False) w w' ∧ ((newC hold V ≠ 0 ∧ r = .returned (.tuple #[.pointer none, .int .i64 (newC hold V)])) ∨
      (newC hold V = 0 ∧ ∃ g v', r = .returned (.tuple #[.pointer (some ⟨g, 0, none⟩), .int .i64 0]) ∧ w.heap.size ≤ g ∧ Blk w' g 51 #[.int .i64 hold, v', .slice none 0 0, .slice none 0 0] ∧ w'.ownsRow w.heap.size 28 2 v' V.length (dotE.flat V))) := by
  have HV := Lib.hid hv
  clear hv
  go_enter Tryz.func10, Tryz.ntmps10
  by_cases h1 : hold < 0
  · have HC : Hid (newC hold V = 1) := Lib.hid (if_pos (.inl h1))
    go_wp2_with fail
    go_ret2
    exact ⟨Kept.refl _ _, .inl ⟨by rw [HC.out]; decide, by rw [HC.out]; rfl⟩⟩
  · by_cases h2 : 256 < hold
    · have HC : Hid (newC hold V = 1) := Lib.hid (if_pos (.inr h2))
      go_wp2_with fail
      go_ret2
      exact ⟨Kept.refl _ _, .inl ⟨by rw [HC.out]; decide, by rw [HC.out]; rfl⟩⟩
    · have HC : Hid (newC hold V = chkV 0 V) := Lib.hid (if_neg (by omega))
      have HK := Lib.hid (rvcheck_any HV.out (by omega))
      by_cases hc : chkV 0 V = 0
      · have hMI := Lib.hid (fun (w' : World) (hk : Kept (fun _ => False) w w') => (merge_id hc) ▸ rmerge_any (HV.out.kept hk) (SlAt.nil w') (by omega) (by simp))
        rw [hc] at HK
        have HZ := Lib.hid hc
        clear hc
        go_wp2_with (first
          | (go_at_call 31; refine HK.out.mono ?_; rintro r w1 ⟨rfl, hk1⟩; have HC1 := Lib.hid (hMI.out _ hk1); have K1 := Lib.hid hk1)
          | (go_at_call 19; refine HC1.out.mono ?_; rintro r w2 ⟨v', rfl, ho, hk⟩; obtain ⟨va, vc, rfl⟩ := owns_sl ho))
        go_ret2
        have k3 := (Kept.refl (fun _ => False) w2).alloc (.cells #[.int .i64 hold, .slice va V.length vc, .slice none 0 0, .slice none 0 0] 51)
        exact ⟨(K1.out.trans hk (fun _ _ h => h)).trans k3 (fun _ _ h => h), .inr ⟨by rw [HC.out, HZ.out], _, _, rfl, (K1.out.trans hk (fun _ _ h => h)).size, Blk.new _ _ _, owns_lower (owns_keep ho k3 (fun _ _ h => h)) K1.out.size⟩⟩
      · have HZ := Lib.hid hc
        have hcb : (chkV 0 V != 0) = true := by simpa using hc
        generalize chkV 0 V = c at *
        clear hc
        go_wp2_with (go_at_call 31; refine HK.out.mono ?_; rintro r w1 ⟨rfl, hk1⟩)
        go_ret2
        exact ⟨hk1, .inl ⟨by rw [HC.out]; exact HZ.out, by rw [HC.out]; rfl⟩⟩
end Go.Proofs.YtaaeomapbigfgaaGreat
