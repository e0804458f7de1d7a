/- A Queue made behind a world, which the calls leave as it was. A queue by what its operations are, without where they lie. hearsayref7.Add. -/
import Derived.Test.YtaaeomapbigfgaaGreatV15
import Derived.Test.YtaaeomapbigfgaaGreatV36
import Derived.Test.YtaaeomapbigfgaaGreatV12
import Derived.Test.YtaaeomapbigfgaaGreatV13
import Derived.Test.YtaaeomapbigfgaaGreatV17
import Derived.Test.YtaaeomapbigfgaaGreatV5
namespace Go.Proofs.YtaaeomapbigfgaaGreat
open Go.RowKit Go.Proofs.YtaaeomapbigfgaaGreat.St
theorem QAt.tight {w : World} {g : Nat} {hold : Int} {s : QS} {F : Nat → Prop} {vv wv ov : Value} (h : QAt w g hold s F vv wv ov) : QAt w g hold s (fun b => F b ∧ b < w.heap.size) vv wv ov :=
  { h with wF := fun b hb => ⟨h.wF b hb, by obtain ⟨cs, hc⟩ := h.wOp b hb; exact hc.lt⟩, oF := fun b hb => ⟨h.oF b hb, h.oB b hb⟩ }
def inF (wb w : World) (b : Nat) : Prop := wb.heap.size ≤ b ∧ b < w.heap.size
/-- a Queue behind wb -/
def QIn (wb w : World) (g : Nat) (hold : Int) (s : QS) : Prop :=
  wb.heap.size ≤ g ∧ Kept (fun _ => False) wb w ∧ ∃ vv wv ov, QAt w g hold s (inF wb w) vv wv ov
section
variable {wb w w' : World} {g : Nat} {hold : Int} {s : QS}
theorem QIn.kept (h : QIn wb w g hold s) (hk : Kept (fun _ => False) w w') : QIn wb w' g hold s := by
  obtain ⟨h1, h2, vv, wv, ov, h3⟩ := h
  exact ⟨h1, h2.trans hk (fun _ _ h => h), vv, wv, ov, (h3.kept hk).wider (fun b hb => ⟨hb.1, Nat.lt_of_lt_of_le hb.2 hk.size⟩)⟩
theorem QIn.lt (h : QIn wb w g hold s) : g < w.heap.size := by obtain ⟨h1, h2, vv, wv, ov, h3⟩ := h; exact h3.head.lt
theorem QIn.wlen (h : QIn wb w g hold s) : s.W.length ≤ 100000 := by obtain ⟨h1, h2, vv, wv, ov, h3⟩ := h; exact h3.wlen
/-- what an offer may write -/
def offF (wb w : World) (g : Nat) : Nat → Prop := QF w g (inF wb w)
theorem offer_in {x : OpV} {D : List Dot} (h : QIn wb w g hold s) (hx : x.Join) (hok : x.dot.Ok) (hD : SlAt dotE w x.deps.v D) (hG : SlAt runE w x.gone.v []) (hDl : D.length ≤ 1000000) (hch : chkV 0 D = 0) (hget : getV D x.dot.site = x.dot.seq - 1) (hW : s.W.length ≤ 10000) (hO : s.O.length ≤ 100000) :
    Calls Tryz.prog 13 #[.pointer (some ⟨g, 0, none⟩), .agg (opA x)] w fun r w' => ∃ a e s', r = .returned (.tuple #[.int .i64 a, .int .i64 0]) ∧ key e = (x.dot, D) ∧ e.v.kind = 3 ∧ OfferIs hold s 0 e a s' ∧ QIn wb w' g hold s' ∧ Kept (offF wb w g) w w' := by
  obtain ⟨h1, h2, vv, wv, ov, h3⟩ := h
  refine (offer_any (c := 0) h3 hD hG hDl (by simp) hW hO (fun w' hk => check_join hx hok (hD.kept hk) hDl hch hget) (fun _ => hok) (fun b hb => hb.2)).mono ?_
  rintro r w' ⟨a, d, z, s', vv', wv', ov', rfl, hoff, hq, hk, _⟩
  refine ⟨a, _, s', rfl, rfl, hx.kind, hoff, ⟨h1, h2.over hk (fun b hb => ?_), vv', wv', ov', hq.tight.wider (fun b hb => ⟨?_, hb.2⟩)⟩, hk⟩
  · rcases hb with rfl | ⟨hb, _⟩
    · exact h1
    · exact hb.1
  · rcases hb.1 with hb | hb
    · exact hb.1
    · exact Nat.le_trans h2.size hb
theorem new_in {v : Value} {V : List Dot} (hv : SlAt dotE w v V) (hl : V.length ≤ 1000) (hc : newC hold V = 0) :
    Calls Tryz.prog 9 #[.int .i64 hold, v] w fun r w' => ∃ g, r = .returned (.tuple #[.pointer (some ⟨g, 0, none⟩), .int .i64 0]) ∧ QIn w w' g hold ⟨V, [], []⟩ := by
  refine (new_any (hold := hold) hv (by omega)).mono ?_
  rintro r w' ⟨hk, ⟨hne, _⟩ | ⟨_, g, v', rfl, hg, hb, ho⟩⟩
  · exact absurd hc hne
  · refine ⟨g, rfl, hg, hk, v', .slice none 0 0, .slice none 0 0, ⟨hb, owns_lower ho (Nat.zero_le _), hl, World.ownsRow_nil _ _ _ _, by simp, OutAt.nil _ _, by simp, fun b hb => by simp [Value.ownBlock] at hb, fun b hb => by simp [Value.ownBlock] at hb, fun b hb => by simp [Value.ownBlock] at hb, fun b hb => by simp [Value.ownBlock] at hb, by simp⟩⟩
theorem take_in (h : QIn wb w g hold s) :
    Calls Tryz.prog 14 #[.pointer (some ⟨g, 0, none⟩)] w fun r w' => Kept (fun x => x = g) w w' ∧ ((s.O = [] ∧ r = .returned (.tuple #[.agg zeroOp, .bool false]) ∧ QIn wb w' g hold s) ∨
      ∃ e O', s.O = e :: O' ∧ r = .returned (.tuple #[.agg (opA e.v), .bool true]) ∧ QIn wb w' g hold ⟨s.V, s.W, O'⟩) := by
  have h0 := h
  obtain ⟨h1, h2, vv, wv, ov, h3⟩ := h
  refine (take_any h3.head h3.out (by have := h3.olen; omega)).mono ?_
  rintro r w' (⟨hn, rfl, hk⟩ | ⟨e, O', ov', hO, rfl, hb, ho, hob, hk⟩)
  · exact ⟨hk.mono (fun _ _ h => h.elim), .inl ⟨hn, rfl, h0.kept hk⟩⟩
  · refine ⟨hk, .inr ⟨e, O', hO, rfl, h1, h2.over hk (fun b hb => by rw [hb]; exact h1), vv, wv, ov', ?_⟩⟩
    have hsp : Spares w (fun x => x = g) := fun b cs e => by subst e; exact ⟨fun hb => h3.head.ne_ hb (of_decide_eq_true (by kernel_rfl)) rfl, fun hb => h3.head.ne_ hb (of_decide_eq_true (by kernel_rfl)) rfl⟩
    exact ⟨hb, owns_keep h3.vec hk (owns_far h3.vec h3.head (of_decide_eq_true (by kernel_rfl))), h3.vlen, owns_keep h3.wait hk (owns_far h3.wait h3.head (of_decide_eq_true (by kernel_rfl))), h3.wlen, ho, by have := h3.olen; rw [hO] at this; simp at this; show O'.length ≤ _; omega,
      fun b hb => ⟨(h3.wF b hb).1, Nat.lt_of_lt_of_le (h3.wF b hb).2 hk.size⟩, fun b hb => by rw [hob] at hb; exact ⟨(h3.oF b hb).1, Nat.lt_of_lt_of_le (h3.oF b hb).2 hk.size⟩, fun b hb => by rw [hob]; exact h3.apart b hb, fun b hb => by rw [hob] at hb; exact Nat.lt_of_lt_of_le (h3.oB b hb) hk.size,
      fun y hy => (h3.ents y (by rcases List.mem_append.1 hy with hy | hy; exact List.mem_append.2 (.inl hy); exact List.mem_append.2 (.inr (by rw [hO]; exact List.mem_cons_of_mem _ hy)))).keep hk hsp⟩
theorem waits_in (h : QIn wb w g hold s) :
    Calls Tryz.prog 16 #[.pointer (some ⟨g, 0, none⟩)] w fun r w' => ∃ v' L, r = .returned v' ∧ L.Perm (dotsOf s.W) ∧ DSorted L ∧ w'.ownsRow w.heap.size 28 2 v' L.length (dotE.flat L) ∧ Kept (fun _ => False) w w' := by
  obtain ⟨h1, h2, vv, wv, ov, h3⟩ := h
  exact waits_any h3.head h3.wait (by have := h3.wlen; omega)
theorem vector_in (h : QIn wb w g hold s) :
    Calls Tryz.prog 18 #[.pointer (some ⟨g, 0, none⟩)] w fun r w' => ∃ v', r = .returned v' ∧ w'.ownsRow w.heap.size 28 2 v' s.V.length (dotE.flat s.V) ∧ Kept (fun _ => False) w w' := by
  obtain ⟨h1, h2, vv, wv, ov, h3⟩ := h
  exact vector_any h3.head (owns_slAt (E := dotE) h3.vec) (by have := h3.vlen; omega)
theorem free_in (h : QIn wb w g hold s) (hh1 : -1000000 ≤ hold) (hh2 : hold ≤ 1000000) :
    Calls Tryz.prog 17 #[.pointer (some ⟨g, 0, none⟩)] w fun r w' => r = .returned (.int .i64 (hold - s.W.length)) ∧ Grew w w' := by
  obtain ⟨h1, h2, vv, wv, ov, h3⟩ := h
  obtain ⟨a, c, rfl⟩ := owns_sl h3.wait
  exact free_any h3.head hh1 hh2 (by have := h3.wlen; omega)
end
end Go.Proofs.YtaaeomapbigfgaaGreat
namespace Go.Proofs.YtaaeomapbigfgaaGreat
open Go.Proofs.YtaaeomapbigfgaaGreat.St
structure AQ where
  V : List Dot
  W : List Key
  O : List Key
deriving DecidableEq
def QS.abs (s : QS) : AQ := ⟨s.V, s.W.map key, s.O.map key⟩
def agr (W : List Key) : Nat → Nat
  | 0 => 0
  | n + 1 => match W[n]?, W[agr W n]? with
    | some e, some f => if 0 < farV e.1 f.1 e.2 f.2 then n else agr W n
    | _, _ => agr W n
def adrain : Nat → AQ → AQ
  | 0, s => s
  | n + 1, s => match s.W.findIdx? (fun k => decide (Ent.can s.V k.1 k.2)) with
    | none => s
    | some i => match s.W[i]? with
      | none => s
      | some e => adrain n ⟨addV s.V e.1, s.W.eraseIdx i, s.O ++ [e]⟩
def aoffer (hold : Int) (s : AQ) (e : Key) : Int × AQ :=
  if hasV s.V e.1 ∨ (s.W.any fun k => decide (k.1 = e.1)) = true then (3, s) else
  if Ent.can s.V e.1 e.2 then (1, adrain s.W.length ⟨addV s.V e.1, s.W, s.O ++ [e]⟩) else
  if (s.W.length : Int) + 1 ≤ hold then (2, ⟨s.V, s.W ++ [e], s.O⟩) else
  (match (s.W ++ [e])[agr (s.W ++ [e]) (s.W.length + 1)]? with
    | some f => (if f.1 = e.1 then 4 else 2)
    | none => 2, ⟨s.V, (s.W ++ [e]).eraseIdx (agr (s.W ++ [e]) (s.W.length + 1)), s.O⟩)
theorem grI_abs (W : List Ent) : ∀ n, grI W n = agr (W.map key) n
  | 0 => rfl
  | n + 1 => by
    unfold grI agr
    rw [grI_abs W n, List.getElem?_map, List.getElem?_map]
    cases h1 : W[n]? with
    | none => rfl
    | some e =>
      cases h2 : W[agr (W.map key) n]? with
      | none => rfl
      | some f => rfl
theorem drain_abs : ∀ (n : Nat) (s : QS), (drain n s).abs = adrain n s.abs
  | 0, _ => rfl
  | n + 1, s => by
    unfold drain adrain
    have hf : s.abs.W.findIdx? (fun k => decide (Ent.can s.abs.V k.1 k.2)) = s.W.findIdx? (Ent.canB s.V) := by
      show (s.W.map key).findIdx? _ = _
      rw [List.findIdx?_map]
      rfl
    rw [hf]
    cases h1 : s.W.findIdx? (Ent.canB s.V) with
    | none => rfl
    | some i =>
      have hg : s.abs.W[i]? = s.W[i]?.map key := List.getElem?_map
      cases h2 : s.W[i]? with
      | none => simp only [hg, h2]; rfl
      | some e =>
        simp only [hg, h2, Option.map_some]
        rw [drain_abs n (s.take i e)]
        congr 1
        show AQ.mk _ ((s.W.eraseIdx i).map key) ((s.O ++ [e]).map key) = AQ.mk _ ((s.W.map key).eraseIdx i) (s.O.map key ++ [key e])
        rw [map_erase, List.map_append]
        rfl
theorem has_abs (W : List Ent) (d : Dot) : hasDot W d = (W.map key).any fun k => decide (k.1 = d) := by
  unfold hasDot
  rw [List.any_map]
  rfl
theorem OfferIs.abs {hold a : Int} {s s' : QS} {e : Ent} (h : OfferIs hold s 0 e a s') : (a, s'.abs) = aoffer hold s.abs (key e) := by
  unfold aoffer
  have e0 : (s.abs.W.any fun k => decide (k.1 = (key e).1)) = hasDot s.W e.v.dot := (has_abs s.W e.v.dot).symm
  have e1 : s.abs.W.length = s.W.length := List.length_map _
  have e2 : s.abs.W ++ [key e] = (s.W ++ [e]).map key := by rw [List.map_append]; rfl
  rw [e0, e1, e2, ← grI_abs]
  rcases h with ⟨h, _⟩ | ⟨_, hhad, rfl, rfl⟩ | ⟨_, hnot, hc, rfl, rfl⟩ | ⟨_, hnot, hc, hr, rfl, rfl⟩ | ⟨_, hnot, hc, hr, f, hf, rfl, rfl⟩
  · exact absurd rfl h
  · rw [if_pos (show hasV s'.abs.V (key e).1 ∨ _ from hhad)]
  · rw [if_neg (show ¬ (hasV s.abs.V (key e).1 ∨ _) from hnot), if_pos (show Ent.can s.abs.V (key e).1 (key e).2 from hc), drain_abs]
    congr 2
    show AQ.mk _ _ ((s.O ++ [e]).map key) = _
    rw [List.map_append]
    rfl
  · rw [if_neg (show ¬ (hasV s.abs.V (key e).1 ∨ _) from hnot), if_neg (show ¬ Ent.can s.abs.V (key e).1 (key e).2 from hc), if_pos hr]
    congr 1
  · rw [if_neg (show ¬ (hasV s.abs.V (key e).1 ∨ _) from hnot), if_neg (show ¬ Ent.can s.abs.V (key e).1 (key e).2 from hc), if_neg (show ¬ ((s.W.length : Int) + 1 ≤ hold) by omega), List.getElem?_map, hf, map_erase]
    rfl
abbrev kn (a b : Int) (D : List Dot) : Key := (⟨a, b⟩, D)
theorem known1 : aoffer 2 ⟨[], [], []⟩ (kn 1 1 []) = (1, ⟨[⟨1, 1⟩], [], [kn 1 1 []]⟩) := by decide +kernel
theorem known2 : aoffer 2 ⟨[⟨1, 1⟩], [], [kn 1 1 []]⟩ (kn 1 3 [⟨1, 2⟩]) = (2, ⟨[⟨1, 1⟩], [kn 1 3 [⟨1, 2⟩]], [kn 1 1 []]⟩) := by decide +kernel
theorem known3 : aoffer 2 ⟨[⟨1, 1⟩], [kn 1 3 [⟨1, 2⟩]], [kn 1 1 []]⟩ (kn 2 1 [⟨1, 3⟩]) = (2, ⟨[⟨1, 1⟩], [kn 1 3 [⟨1, 2⟩], kn 2 1 [⟨1, 3⟩]], [kn 1 1 []]⟩) := by decide +kernel
theorem known4 : aoffer 2 ⟨[⟨1, 1⟩], [kn 1 3 [⟨1, 2⟩], kn 2 1 [⟨1, 3⟩]], [kn 1 1 []]⟩ (kn 2 2 [⟨1, 3⟩, ⟨2, 1⟩]) = (4, ⟨[⟨1, 1⟩], [kn 1 3 [⟨1, 2⟩], kn 2 1 [⟨1, 3⟩]], [kn 1 1 []]⟩) := by decide +kernel
theorem known5 : aoffer 2 ⟨[⟨1, 1⟩], [kn 1 3 [⟨1, 2⟩], kn 2 1 [⟨1, 3⟩]], [kn 1 1 []]⟩ (kn 3 1 [⟨1, 2⟩]) = (2, ⟨[⟨1, 1⟩], [kn 1 3 [⟨1, 2⟩], kn 3 1 [⟨1, 2⟩]], [kn 1 1 []]⟩) := by decide +kernel
theorem known6 : aoffer 2 ⟨[⟨1, 1⟩], [kn 1 3 [⟨1, 2⟩], kn 3 1 [⟨1, 2⟩]], [kn 1 1 []]⟩ (kn 1 2 [⟨1, 1⟩]) = (1, ⟨[⟨1, 3⟩, ⟨3, 1⟩], [], [kn 1 1 [], kn 1 2 [⟨1, 1⟩], kn 1 3 [⟨1, 2⟩], kn 3 1 [⟨1, 2⟩]]⟩) := by decide +kernel
theorem dsorted_eq {L M : List Dot} (hp : L.Perm M) (h1 : DSorted L) (h2 : DSorted M) : L = M := by
  refine List.Perm.eq_of_pairwise (le := fun a b : Dot => ¬ b.lt a) (fun a b _ _ h3 h4 => ?_) h1 h2 hp
  have h3' : ¬ b.id.lt a.id := h3
  have h4' : ¬ a.id.lt b.id := h4
  unfold ID.lt at h3' h4'
  unfold Dot.id at h3' h4'
  rw [Dot.ext_iff]
  simp only at h3' h4'
  omega
end Go.Proofs.YtaaeomapbigfgaaGreat
namespace Go.Proofs.YtaaeomapbigfgaaGreat
open Go.RowKit Go.Proofs.YtaaeomapbigfgaaGreat.St
set_option maxRecDepth 100000 in
set_option maxHeartbeats 4000000 in
theorem radd_any {w : World} {v : Value} {L : List Dot} (h : SlAt dotE w v L) (hb : L.length ≤ 1000000000) (d : Dot) : Calls Tryz.prog 22 #[v, .agg #[.int .i64 d.site, .int .i64 d.seq]] w fun e w' =>
    ∃ v', e = .returned (.tuple #[v', .int .i64 (whyAdd L d)]) ∧ AddIs w w' L d v' ∧ Kept (fun _ => False) w w' := by
  obtain ⟨s, q⟩ := d
  have hk0 : Kept (fun _ => False) w (w.alloc (.cells #[.int .i64 s, .int .i64 q] 28)) := (Kept.refl _ _).alloc _
  have hB := Blk.new w 28 #[.int .i64 s, .int .i64 q]
  have b0 : (w.alloc (.cells #[.int .i64 s, .int .i64 q] 28)).cell? ⟨w.heap.size, 0, none⟩ = some (.int .i64 s) := hB.cell' (i := 0) rfl
  have b1 : (w.alloc (.cells #[.int .i64 s, .int .i64 q] 28)).cell? ⟨w.heap.size, 1, none⟩ = some (.int .i64 q) := hB.cell' (i := 1) rfl
  have KD := Lib.hid hk0
  have KD2 := hk0.drew
  have hg := Lib.hid (fun (w' : World) (hk : Kept (fun _ => False) w w') => rget_any (h.kept hk) hb s)
  have HO := Lib.hid (fun (w' : World) (hk : Kept (fun _ => False) w w') => rsays_any (h.kept hk) hb)
  have wa : whyAdd L ⟨s, q⟩ = if ¬ isSite s ∨ q < 1 then 1 else if 2147483647 < q then 17 else if q ≠ getV L s + 1 then 9 else 0 := rfl
  clear h hB hk0
  by_cases hs : isSite s
  case neg =>
    rw [if_pos (.inl hs)] at wa
    have WA := Lib.hid wa
    have hs3 : s < 1 ∨ 16 < s := by unfold isSite at hs; omega
    clear wa hs
    by_cases h5 : s < 1
    · clear hs3
      go_enter Tryz.func22, Tryz.ntmps22
      go_wp2_with fail
      go_ret2
      exact ⟨_, by rw [WA.out]; rfl, ⟨fun _ => rfl, fun h => by rw [WA.out] at h; cases h⟩, KD.out⟩
    · have h6 := hs3.resolve_left h5
      clear hs3
      go_enter Tryz.func22, Tryz.ntmps22
      go_wp2_with fail
      go_ret2
      exact ⟨_, by rw [WA.out]; rfl, ⟨fun _ => rfl, fun h => by rw [WA.out] at h; cases h⟩, KD.out⟩
  case pos =>
  have hs1 : ¬ s < 1 := by unfold isSite at hs; omega
  have hs2 : ¬ 16 < s := by unfold isSite at hs; omega
  by_cases h1 : q < 1
  · rw [if_pos (.inr h1)] at wa
    have WA := Lib.hid wa
    clear wa hs
    go_enter Tryz.func22, Tryz.ntmps22
    go_wp2_with fail
    go_ret2
    exact ⟨_, by rw [WA.out]; rfl, ⟨fun _ => rfl, fun h => by rw [WA.out] at h; cases h⟩, KD.out⟩
  rw [if_neg (fun h => by rcases h with h | h; exact h hs; exact h1 h)] at wa
  by_cases h2 : 2147483647 < q
  · rw [if_pos h2] at wa
    have WA := Lib.hid wa
    clear wa hs
    go_enter Tryz.func22, Tryz.ntmps22
    go_wp2_with fail
    go_ret2
    exact ⟨_, by rw [WA.out]; rfl, ⟨fun _ => rfl, fun h => by rw [WA.out] at h; cases h⟩, KD.out⟩
  rw [if_neg h2] at wa
  have gbd : 0 ≤ getV L s ∧ getV L s ≤ 2147483647 := by
    unfold getV
    by_cases h : isSite s
    · rw [if_pos h]; exact says_bd L _
    · rw [if_neg h]; exact ⟨by decide, by decide⟩
  have hw : IntKind.i64.wrap (getV L s + 1) = getV L s + 1 := IntWalk.i64_in _ (by omega)
  by_cases h3 : q = getV L s + 1
  case neg =>
    rw [if_pos h3] at wa
    have hq : (q == getV L s + 1) = false := beq_eq_false_iff_ne.2 h3
    have WA := Lib.hid wa
    generalize getV L s = gv at *
    clear wa hs gbd h3
    go_enter Tryz.func22, Tryz.ntmps22
    go_wp2_with fail
    go_region_held3 (fun w' => Kept (fun _ => False) w w' ∧ w'.cell? ⟨w.heap.size, 0, none⟩ = some (.int .i64 s) ∧ w'.cell? ⟨w.heap.size, 1, none⟩ = some (.int .i64 q)) (first | (with_reducible exact ⟨KD2, b0, b1⟩) | go_keep)
      (first | (go_simp; go_at_call 21; refine (hg.out _ KD2).mono ?_; rintro e w1 ⟨rfl, hk1⟩; have KE := KD2.trans hk1 (fun _ _ h => h); have b0 := hk1.cell b0; have b1 := hk1.cell b1))
    have KF : Hid (Kept (fun _ => False) w w1) := Lib.hid KE
    go_wp2_with fail
    go_ret2
    exact ⟨_, by rw [WA.out]; rfl, ⟨fun _ => rfl, fun h => by rw [WA.out] at h; cases h⟩, KF.out⟩
  case pos =>
    rw [if_neg (fun h => h h3)] at wa
    have hq : (q == getV L s + 1) = true := beq_iff_eq.2 h3
    have WA := Lib.hid wa
    generalize getV L s = gv at *
    unfold isSite at hs
    obtain ⟨k, rfl⟩ : ∃ k : Nat, s = k := ⟨s.toNat, by omega⟩
    have hkI : (k : Int) < 17 := by omega
    have hk17 : k < 17 := by omega
    have hk0 : (0 : Int) ≤ k := by omega
    have Q3 := Lib.hid h3
    clear wa hs gbd h3
    go_enter Tryz.func22, Tryz.ntmps22
    go_wp2_with fail
    go_region_held3 (fun w' => Kept (fun _ => False) w w' ∧ w'.cell? ⟨w.heap.size, 0, none⟩ = some (.int .i64 k) ∧ w'.cell? ⟨w.heap.size, 1, none⟩ = some (.int .i64 q)) (first | (with_reducible exact ⟨KD2, b0, b1⟩) | go_keep)
      (first | (go_simp; go_at_call 21; refine (hg.out _ KD2).mono ?_; rintro e w1 ⟨rfl, hk1⟩; have KE := KD2.trans hk1 (fun _ _ h => h); have b0 := hk1.cell b0; have b1 := hk1.cell b1))
    have KF : Hid (Kept (fun _ => False) w w1) := Lib.hid KE
    have C0 := Lib.hid b0
    have C1 := Lib.hid b1
    clear b0 b1
    go_wp2_with (first
      | (refine wpList_load_row rfl 89 _ rfl w2.heap.size rfl 89 _ (0, 0) _ ((P2.out.row (cells (says L))).set_ k (.int .i64 q)) Tryz.underlying89 rfl (by rw [cells_add, cells_size]; kernel_rfl) ?_)
      | (refine wpList_store_row rfl 89 _ _ rfl w2.heap.size (cells (says L)) rfl rfl 89 zero17 P2.out (by rw [cells_size]; kernel_rfl) (by rw [cells_size]; rfl) (cells_one _) ?_; have f2 := (P2.out.row (cells (says L))).frozen k; have c2 := (P2.out.row (cells (says L))).cell' (cells_get (says L) hk17))
      | (go_at_call 51; refine (HO.out _ KF.out).mono ?_; rintro e w2 ⟨rfl, hk2⟩; have P2 := Lib.hid (Blk.new w2 89 zero17); have KG := Lib.hid (KF.out.trans hk2 (fun _ _ h => h)); have b0 := ((hk2.alloc (.cells zero17 89)).setRow (g := w2.heap.size) (fun h => by have := hk2.size; omega) (cells (says L))).cell C0.out; have b1 := ((hk2.alloc (.cells zero17 89)).setRow (g := w2.heap.size) (fun h => by have := hk2.size; omega) (cells (says L))).cell C1.out)
      | (go_at_call 52; rw [cells_add]; refine (rof_any _ (fun h => by have h : 0 < if ((0 : Nat) : Int) = (k : Int) then q else says L 0 := h; rw [if_neg (by omega), says_out L 0 (by decide)] at h; omega) _).mono ?_; rintro e w4 ⟨v4, rfl, ho4, hk4⟩))
    have K3 := ((KG.out.alloc (.cells zero17 89)).setRow (g := w2.heap.size) (fun h => by have := KG.out.size; omega) (cells (says L))).setCell (p := ⟨w2.heap.size, k, none⟩) (fun h => by have h : w2.heap.size < w.heap.size := h; have := KG.out.size; omega) (.int .i64 q)
    go_ret2
    exact ⟨_, by rw [WA.out]; rfl, ⟨fun h => absurd WA.out h, fun _ => owns_lower ho4 K3.size⟩, K3.trans hk4 (fun _ _ h => h)⟩
end Go.Proofs.YtaaeomapbigfgaaGreat
