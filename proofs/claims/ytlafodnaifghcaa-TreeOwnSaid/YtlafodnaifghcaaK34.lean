/- What the laid inserts make: plainly. glyph.All's iterator. What a caller of an iterator keeps through its rounds: its boxes alone. -/
import Derived.Test.YtlafodnaifghcaaK25
import Derived.Test.YtlafodnaifghcaaK33
import Derived.Test.YtlafodnaifghcaaK22
import Derived.Test.YtlafodnaifghcaaK24
import Derived.Test.YtlafodnaifghcaaK13
import Derived.Scope
namespace Go.Proofs.Ytlafodnaifghcaa.Tr
open Go.RowKit Go.Proofs.Ytlafodnaifghcaa.St Go.Proofs.Ytlafodnaifghcaa.Gl Go.Proofs.Ytlafodnaifghcaa
noncomputable def insX (L : List Nd) (x : Lad) : List Nd := insL L x.id x.ref x.text.size (badB x.text) (runesL x.text 0)
noncomputable def insXE (L : List Nd) (x : Lad) : Int := insE L x.id x.ref x.text.size (badB x.text) (runesL x.text 0)
noncomputable def insM (M : List Lad) : List Nd := M.foldl insX []
theorem insM_snoc (M : List Lad) (x : Lad) : insM (M ++ [x]) = insX (insM M) x := by unfold insM; rw [List.foldl_append]; rfl
theorem freshL_mem {n : Nd} : ∀ {rs : List Int} {i ref : ID}, n ∈ freshL i ref rs → n.st = 1 ∧ n.rune ∈ rs
  | [], _, _, h => by simp [freshL] at h
  | r :: rs, i, ref, h => by
    rcases List.mem_cons.1 h with rfl | h
    · exact ⟨rfl, List.mem_cons_self⟩
    · obtain ⟨h1, h2⟩ := freshL_mem (rs := rs) h
      exact ⟨h1, List.mem_cons_of_mem _ h2⟩
theorem freshL_runes : ∀ (rs : List Int) (i ref : ID), (freshL i ref rs).map Nd.rune = rs
  | [], _, _ => rfl
  | r :: rs, i, ref => by show r :: (freshL _ _ rs).map Nd.rune = r :: rs; rw [freshL_runes rs]
/-- what is known of a document of laid inserts -/
structure InsOk (L : List Nd) (M : List Lad) (t : Nat) : Prop where
  doc : Doc L
  mem : ∀ y, y ∈ ids L ↔ y ∈ aids M
  len : L.length = t
  st : ∀ n ∈ L, n.st = 1 ∧ isRuneP n.rune
  is_ : ∀ n ∈ L, n.id.Is
/-- a text put by a higher identifier than all that are there -/
theorem ins_high {L : List Nd} {T : Nat} {s : Int} {r : ID} {rs : List Int} (hT : T ≤ 1000000) (hle : ∀ y ∈ ids L, y.t ≤ T) (hs : 1 ≤ s ∧ s ≤ 16) (hr : r = ID.zero ∨ r ∈ ids L) (hri : ∀ y ∈ ids L, y.Is) (hrs : ∀ x ∈ rs, isRuneP x) (hne : rs ≠ []) (hl : rs.length ≤ 1000000) :
    insXE L ⟨⟨(T : Int) + 1, s⟩, r, runeText rs⟩ = 0 ∧ insX L ⟨⟨(T : Int) + 1, s⟩, r, runeText rs⟩ = L.take (placeP L ⟨(T : Int) + 1, s⟩ r) ++ freshL ⟨(T : Int) + 1, s⟩ r rs ++ L.drop (placeP L ⟨(T : Int) + 1, s⟩ r) := by
  obtain ⟨h1, h2⟩ := runeText_runes hrs
  have hpos : 0 < rs.length := List.length_pos_iff.2 hne
  have hE : insXE L ⟨⟨(T : Int) + 1, s⟩, r, runeText rs⟩ = 0 := by
    unfold insXE
    dsimp only
    rw [h1, h2, runeText_size]
    have hfl := (flat_len rs).1
    refine insE_is0 ⟨⟨by show 1 ≤ (T : Int) + 1; omega, by show (T : Int) + 1 ≤ 2147483647; omega, hs.1, hs.2⟩, ?_⟩ ⟨by omega, rfl⟩ (by show (T : Int) + 1 + rs.length - 1 ≤ 2147483647; omega) (.inl ?_) hr ?_
    · exact hr.imp id fun h => hri r h
    · rcases hr with h | h
      · rw [h]; show (0 : Int) < T + 1; omega
      · have := hle r h; show r.t < T + 1; omega
    · rintro ⟨m, hm, _, h4, _⟩
      have := hle m.id (List.mem_map.2 ⟨m, hm, rfl⟩)
      have h4 : (T : Int) + 1 ≤ m.id.t := h4
      omega
  refine ⟨hE, ?_⟩
  have hE2 := hE
  unfold insXE at hE2
  unfold insX insL
  rw [if_neg (fun h => h hE2)]
  dsimp only
  rw [h1]
theorem LaidOk.ins {M : List Lad} {t : Nat} (h : LaidOk M t) (hm : M.length ≤ 1000) : InsOk (insM M) M t := by
  induction h with
  | nil => exact ⟨⟨[], rfl, trivial, List.nodup_nil⟩, fun y => by simp [insM, aids, ids], rfl, fun n hn => by simp [insM] at hn, fun n hn => by simp [insM] at hn⟩
  | @snoc M t s r rs h0 hs1 hs2 hr hne hrs hl ih =>
    have hm1 : M.length ≤ 1000 := by rw [List.length_append] at hm; omega
    have I := ih hm1
    have ht := h0.len.2
    have haid := h0.aid
    obtain ⟨e0, e1⟩ := ins_high (L := insM M) (T := t) (s := s) (r := r) (rs := rs) (by omega) (fun y hy => (haid y ((I.mem y).1 hy)).2.1) ⟨hs1, hs2⟩ (hr.imp id fun h => (I.mem r).2 h) (fun y hy => by obtain ⟨n, hn, e⟩ := List.mem_map.1 hy; rw [← e]; exact I.is_ n hn) hrs hne (by omega)
    rw [insM_snoc]
    refine ⟨?_, fun y => ?_, ?_, fun n hn => ?_, ?_⟩
    · unfold insX; exact insL_doc I.doc ..
    · rw [e1, aids_snoc]
      unfold Lad.ids
      dsimp only
      rw [count_runeText hrs, List.mem_append, mem_runIds]
      have hf := freshL_id ⟨(t : Int) + 1, s⟩ r rs y
      dsimp only at hf
      rw [← hf, ← I.mem y]
      generalize placeP (insM M) ⟨(t : Int) + 1, s⟩ r = p
      show y ∈ ids _ ↔ _
      rw [ids_append, ids_append, List.mem_append, List.mem_append]
      have hsp : y ∈ ids (insM M) ↔ y ∈ ids ((insM M).take p) ∨ y ∈ ids ((insM M).drop p) := by
        rw [← List.mem_append, ← ids_append, List.take_append_drop]
      rw [hsp]
      constructor
      · rintro ((h | h) | h)
        · exact .inl (.inl h)
        · exact .inr h
        · exact .inl (.inr h)
      · rintro ((h | h) | h)
        · exact .inl (.inl h)
        · exact .inr h
        · exact .inl (.inr h)
    · rw [e1, List.length_append, List.length_append, freshL_len]
      have := I.len
      have h9 : ((insM M).take (placeP (insM M) ⟨(t : Int) + 1, s⟩ r)).length + ((insM M).drop (placeP (insM M) ⟨(t : Int) + 1, s⟩ r)).length = (insM M).length := by rw [← List.length_append, List.take_append_drop]
      omega
    · rw [e1] at hn
      rcases List.mem_append.1 hn with hn | hn
      · rcases List.mem_append.1 hn with hn | hn
        · exact I.st n (List.mem_of_mem_take hn)
        · obtain ⟨h1, h2⟩ := freshL_mem hn; exact ⟨h1, hrs _ h2⟩
      · exact I.st n (List.mem_of_mem_drop hn)
    · unfold insX; exact insL_is I.is_ _ _ _ _ _
/-- the i-th of them, at its turn -/
theorem LaidOk.turn {M : List Lad} {t : Nat} (h : LaidOk M t) (hm : M.length ≤ 1000) : ∀ (i : Nat) (x : Lad), M[i]? = some x → ∃ t', LaidOk (M.take i) t' ∧ x.id.t = (t' : Int) + 1 ∧ t' + countR x.text ≤ t ∧ countR x.text ≤ 200 ∧ x.text.size ≤ 800 ∧ insXE (insM (M.take i)) x = 0 ∧ (i + 1 = M.length → t = t' + countR x.text) := by
  induction h with
  | nil => intro i x hx; simp at hx
  | @snoc M t s r rs h0 hs1 hs2 hr hne hrs hl ih =>
    intro i x hx
    have hm1 : M.length ≤ 1000 := by rw [List.length_append] at hm; omega
    by_cases hi : i < M.length
    · rw [List.getElem?_append_left hi] at hx
      obtain ⟨t', h1, h2, h3, h4, h5, h6, _⟩ := ih hm1 i x hx
      have e1 : (M ++ [(⟨⟨(t : Int) + 1, s⟩, r, runeText rs⟩ : Lad)]).take i = M.take i := by rw [List.take_append_of_le_length (by omega)]
      rw [e1]
      exact ⟨t', h1, h2, by omega, h4, h5, h6, fun h => by rw [List.length_append] at h; simp at h; omega⟩
    · rw [List.getElem?_append_right (by omega)] at hx
      obtain rfl : i = M.length := by
        have := (List.getElem?_eq_some_iff.1 hx).1
        simp at this
        omega
      simp at hx
      subst hx
      have e1 : (M ++ [(⟨⟨(t : Int) + 1, s⟩, r, runeText rs⟩ : Lad)]).take M.length = M := by rw [List.take_append_of_le_length (Nat.le_refl _), List.take_length]
      rw [e1]
      have hc := count_runeText hrs
      have I := h0.ins hm1
      have ht := h0.len.2
      have haid := h0.aid
      refine ⟨t, h0, rfl, by dsimp only; omega, by dsimp only; omega, by dsimp only; rw [runeText_size]; have := (flat_len rs).2; omega, ?_, fun _ => by dsimp only; omega⟩
      exact (ins_high (L := insM M) (T := t) (s := s) (r := r) (rs := rs) (by omega) (fun y hy => (haid y ((I.mem y).1 hy)).2.1) ⟨hs1, hs2⟩ (hr.imp id fun h => (I.mem r).2 h) (fun y hy => by obtain ⟨n, hn, e⟩ := List.mem_map.1 hy; rw [← e]; exact I.is_ n hn) hrs hne (by omega)).1
theorem LaidOk.prefix {M : List Lad} {t : Nat} (h : LaidOk M t) (hm : M.length ≤ 1000) (i : Nat) : ∃ t', LaidOk (M.take i) t' := by
  by_cases hi : i < M.length
  · obtain ⟨t', h1, _⟩ := h.turn hm i M[i] (List.getElem?_eq_getElem hi)
    exact ⟨t', h1⟩
  · rw [List.take_of_length_le (by omega)]
    exact ⟨t, h⟩
theorem LaidOk.step {M : List Lad} {t t' i : Nat} {x : Lad} (h : LaidOk M t) (hm : M.length ≤ 1000) (hx : M[i]? = some x) (h' : LaidOk (M.take i) t') : LaidOk (M.take (i + 1)) (t' + countR x.text) ∧ x.id.t = (t' : Int) + 1 ∧ countR x.text ≤ 200 ∧ x.text.size ≤ 800 := by
  obtain ⟨t1, h1, h2, _, h4, h5, _⟩ := h.turn hm i x hx
  obtain ⟨t2, g1⟩ := h.prefix hm (i + 1)
  have e1 : t1 = t' := by rw [← h1.len.1, ← h'.len.1]
  subst e1
  have e2 : t2 = t1 + countR x.text := by
    rw [← g1.len.1, ← h1.len.1, List.take_add_one, hx]
    show (aids (M.take i ++ [x])).length = _
    rw [aids_snoc, List.length_append]
    unfold Lad.ids
    rw [runIds_len]
  subst e2
  exact ⟨g1, h2, h4, h5⟩
end Go.Proofs.Ytlafodnaifghcaa.Tr
namespace Go.Proofs.Ytlafodnaifghcaa.Tr
open Go.RowKit Go.Proofs.Ytlafodnaifghcaa.St Go.Shelf Go.Proofs.Ytlafodnaifghcaa.Gl Go.Proofs.Ytlafodnaifghcaa
attribute [local go_sem] Oper.semAt_some
/-- where the i-th rune begins -/
def placeG (s : ByteArray) (i : Nat) : Nat := (pieces s 0)[i]?.getD 0
def glyEnc (s : ByteArray) (i : Nat) : Array Value := #[.int .i64 (placeG s i), .int .i32 ((Utf8.decode s (placeG s i)).1 : Int)]
set_option maxRecDepth 100000 in
set_option maxHeartbeats 8000000 in
theorem gall_iter {s : ByteArray} {pl : Nat} :
    IterOk Fence.wide 5 Try.prog 74 #[.pointer (some ⟨pl, 0, none⟩)] (pieces s 0).length (glyEnc s) (fun w => w.cell? ⟨pl, 0, none⟩ = some (.string s)) := by
  intro yl I Z X0 w hrd hgr hgz hy h0
  have x0 := hrd _ _ w h0
  have GR := Lib.hid hgr
  have HY := Lib.hid hy
  have hk0 : Kept X0 w (w.iter s 0) := (Kept.refl _ _).alloc _
  have H0 := Lib.hid (hgr _ _ _ _ h0 hk0)
  have hit0 : (w.iter s 0).heap[w.heap.size]? = some (.stringIter s 0) := heap_alloc_new _ _
  clear hrd hgr hgz hy h0 hk0
  refine callsIn_of_wp Try.func74 rfl trivial ?_ rfl
  simp only [Try.ntmps74, List.size_toArray, List.length_cons, List.length_nil, Nat.reduceAdd, Nat.reduceSub, Array.replicate_succ, Array.replicate_zero, List.push_toArray, List.append_toArray, List.nil_append, List.cons_append]
  gi_wp2
  obtain ⟨q, hq⟩ : ∃ q, w.heap.size = q := ⟨_, rfl⟩
  rw [hq] at hit0 H0 ⊢
  have hX : (fun b => X0 b ∨ (q ≤ b ∧ b < (w.iter s 0).heap.size)) q := .inr ⟨Nat.le_refl _, by have := (Array.getElem?_eq_some_iff.1 hit0).1; exact this⟩
  have HX := Lib.hid hX
  have HI := Lib.hid hit0
  clear hX hit0
  gi_loopw [3, 4] (fun _ _ wr => ∃ j p : Nat, p ≤ s.size ∧ j ≤ (pieces s 0).length ∧ pieces s p = (pieces s 0).drop j ∧ wr.heap[q]? = some (.stringIter s p) ∧ ∃ X, X q ∧ I j X wr) (fun _ _ wr => s.size - wr.iterPos q)
  case atStart => exact ⟨0, 0, Nat.zero_le _, Nat.zero_le _, rfl, HI.out, _, HX.out, H0.out⟩
  case round =>
    obtain ⟨j, p, hp, hjle, hpd, hit, X, hXq, hI⟩ := hrel
    have hip : wr.iterPos q = p := by unfold World.iterPos; rw [hit]
    by_cases hlt : p < s.size
    case neg =>
      have hnx := fun ty => Lib.run_next_end_at (P := Try.prog) wr q s p ty hit hlt
      have hj : j = (pieces s 0).length := by
        rw [pieces_end hlt] at hpd
        have := (List.drop_eq_nil_iff (l := pieces s 0) (i := j)).1 hpd.symm
        omega
      have HI2 := Lib.hid (hj ▸ hI)
      clear hI hj hpd hjle
      gi_wp2
      go_end0
      exact ⟨⟨_, rfl⟩, .inl ⟨X, HI2.out⟩⟩
    case pos =>
      have hnx := fun ty => Lib.run_next_any_at (P := Try.prog) wr q s p ty hit hlt
      have hst : (Utf8.decode s p).2 = stepW s p := (decode_runeW s p).1
      rw [hst] at hnx
      have hjl : j < (pieces s 0).length := by
        rw [pieces_next hlt] at hpd
        rcases Nat.lt_or_ge j (pieces s 0).length with h | h
        · exact h
        · rw [List.drop_eq_nil_of_le h] at hpd; cases hpd
      have hpl : placeG s j = p := by
        rw [pieces_next hlt, List.drop_eq_getElem_cons hjl] at hpd
        injection hpd with e1 e2
        unfold placeG
        rw [List.getElem?_eq_getElem hjl, ← e1]
        rfl
      have hpd2 : pieces s (p + stepW s p) = (pieces s 0).drop (j + 1) := by
        rw [pieces_next hlt, List.drop_eq_getElem_cons hjl] at hpd
        injection hpd with e1 e2
      have hkq : Kept X wr (wr.iterAt q s (p + stepW s p)) := (kept_obj wr q (.stringIter s (p + stepW s p))).mono fun b _ e => by rw [e]; exact hXq
      have hI2 := GR.out j X wr _ hI hkq
      have hcall := HY.out j _ _ hjl hI2
      have hit2 : (wr.iterAt q s (p + stepW s p)).heap[q]? = some (.stringIter s (p + stepW s p)) := Lib.iterAt_heap wr q s p _ hit
      unfold glyEnc at hcall
      rw [hpl] at hcall
      obtain ⟨fn, tmps, assign, body, hyd, hR⟩ := hcall
      have HRR := Lib.hid hR
      have hle := stepW_in hlt
      have hpo := stepW_pos s p
      have R1 := Lib.hid hpd2
      have IT2 := Lib.hid hit2
      have XQ := Lib.hid hXq
      have ITP := Lib.hid hit
      clear hst hpd hpd2 hkq hI hI2 hR hit2 hXq hpl
      generalize (Utf8.decode s p).1 = r at *
      generalize stepW s p = st at *
      clear hjle hit hip
      gi_wp2
      refine HRR.out.mono ?_
      rintro e w2 ⟨bb, rfl, hx2, _, ht, hf⟩
      have HIT := Lib.hid ((hx2 q (.inl XQ.out)).trans IT2.out)
      cases bb with
      | true =>
        have T := Lib.hid (ht rfl)
        clear ht hf hyd x0 hx2
        gi_wp2
        go_roundw
        case rel => exact ⟨j + 1, p + st, hle, by omega, R1.out, HIT.out, _, .inl XQ.out, T.out⟩
        case measure =>
          have e1 : w2.iterPos q = p + st := by unfold World.iterPos; rw [HIT.out]
          have e2 : wr.iterPos q = p := by unfold World.iterPos; rw [ITP.out]
          rw [e1, e2]
          omega
      | false =>
        have T := Lib.hid (hf rfl)
        clear ht hf hyd x0 hx2
        gi_wp2
        refine bodyPost_ret (results_none rfl _ _ _) rfl ?_
        exact ⟨⟨_, rfl⟩, .inr ⟨_, T.out⟩⟩
end Go.Proofs.Ytlafodnaifghcaa.Tr
namespace Go.Proofs.Ytlafodnaifghcaa.Tr
open Go.RowKit Go.Proofs.Ytlafodnaifghcaa.St Go.Shelf
structure BJ (w : World) (B : Nat) (bs : List Box) (X : Nat → Prop) (W : World) : Prop where
  box : ∀ x ∈ bs, (w.heap.size ≤ x.1 ∧ x.1 < B) ∧ Blk W x.1 x.2.1 x.2.2
  far : ∀ b, X b → B ≤ b ∧ b < W.heap.size
  size : w.heap.size ≤ B ∧ B ≤ W.heap.size
  kept : Kept (fun _ => False) w W
variable {w W W' : World} {B : Nat} {bs : List Box} {X : Nat → Prop}
theorem BJ.start (w : World) : BJ w w.heap.size [] (fun _ => False) w := ⟨fun x hx => by simp at hx, fun _ h => h.elim, ⟨Nat.le_refl _, Nat.le_refl _⟩, Kept.refl _ _⟩
theorem BJ.boxed (h : BJ w W.heap.size bs (fun _ => False) W) (vs : Array Value) (T : TypeId) : BJ w (W.alloc (.cells vs T)).heap.size (bs ++ [(W.heap.size, T, vs)]) (fun _ => False) (W.alloc (.cells vs T)) :=
  { box := fun x hx => by
      have hs : (W.alloc (.cells vs T)).heap.size = W.heap.size + 1 := World.size_alloc _ _
      rcases List.mem_append.1 hx with hx | hx
      · exact ⟨⟨(h.box x hx).1.1, by have := (h.box x hx).1.2; omega⟩, (h.box x hx).2.alloc _⟩
      · rw [List.mem_singleton.1 hx]
        exact ⟨⟨h.size.1, by show W.heap.size < _; omega⟩, Blk.new _ _ _⟩
    far := fun _ h => h.elim
    size := ⟨by have := h.size.1; simp; omega, Nat.le_refl _⟩
    kept := h.kept.alloc _ }
theorem BJ.step {Y : Nat → Prop} (h : BJ w B bs X W) (hk : Kept Y W W') (hY : ∀ b, Y b → B ≤ b) : BJ w B bs X W' where
  box := fun x hx => ⟨(h.box x hx).1, hk.blk (fun hy => by have := hY _ hy; have := (h.box x hx).1; omega) (h.box x hx).2⟩
  far := fun b hb => ⟨(h.far b hb).1, Nat.lt_of_lt_of_le (h.far b hb).2 hk.size⟩
  size := ⟨h.size.1, Nat.le_trans h.size.2 hk.size⟩
  kept := h.kept.trans hk fun b hb hy => by have := hY _ hy; have := h.size.1; omega
theorem BJ.grow (h : BJ w B bs X W) (hk : Kept X W W') : BJ w B bs (fun b => X b ∨ (W.heap.size ≤ b ∧ b < W'.heap.size)) W' :=
  { h.step hk fun b hb => (h.far b hb).1 with far := fun b hb => hb.elim (fun h1 => ⟨(h.far b h1).1, Nat.lt_of_lt_of_le (h.far b h1).2 hk.size⟩) fun h2 => ⟨Nat.le_trans h.size.2 h2.1, h2.2⟩ }
theorem BJ.alloc (h : BJ w B bs X W) (o : Obj) : BJ w B bs X (W.alloc o) := h.step (Y := fun _ => False) ((Kept.refl _ _).alloc o) fun _ h => h.elim
theorem BJ.put (h : BJ w B bs X W) {l : Nat} (hl : B ≤ l) (o : Obj) : BJ w B bs X (W.putObj l o) := h.step (kept_put W l o) fun b hb => by rw [hb]; exact hl
theorem BJ.at_ (h : BJ w B bs X W) (j : Nat) {z : Nat} {T : TypeId} {us : Array Value} (hj : bs[j]? = some (z, T, us)) : Blk W z T us := (h.box _ (List.mem_of_getElem? hj)).2
theorem BJ.cell (h : BJ w B bs X W) (j : Nat) {z : Nat} {T : TypeId} {us : Array Value} (hj : bs[j]? = some (z, T, us)) (i : Nat) {u : Value} (hu : us[i]? = some u) : W.cell? ⟨z, i, none⟩ = some u := (h.at_ j hj).cell' hu
theorem BJ.frozen (h : BJ w B bs X W) (j : Nat) {z : Nat} {T : TypeId} {us : Array Value} (hj : bs[j]? = some (z, T, us)) (i : Nat) : W.frozen? ⟨z, i, none⟩ = false := (h.at_ j hj).frozen i
theorem BJ.set (h : BJ w B bs X W) (j : Nat) {z : Nat} {T : TypeId} {u : Value} (v : Value) (hj : bs[j]? = some (z, T, #[u])) (hnd : (bs.map (·.1)).Nodup) : BJ w B (bs.set j (z, T, #[v])) X (W.setCell ⟨z, 0, none⟩ v) := by
  have hjl := (List.getElem?_eq_some_iff.1 hj).1
  have hzb := h.box _ (List.mem_of_getElem? hj)
  have hk : Kept (· = z) W (W.setCell ⟨z, 0, none⟩ v) := kept_cell W z v
  refine { box := fun x hx => ?_, far := fun b hb => ⟨(h.far b hb).1, by rw [World.size_setCell]; exact (h.far b hb).2⟩, size := ⟨h.size.1, by rw [World.size_setCell]; exact h.size.2⟩, kept := h.kept.trans hk fun b hb e => ?_ }
  · obtain ⟨i, hi, hx⟩ := List.mem_iff_getElem.1 hx
    by_cases e : j = i
    · subst e
      rw [List.getElem_set_self] at hx
      subst hx
      exact ⟨hzb.1, by have h9 := Blk.set_ (g := z) (t := T) (cs := #[u]) hzb.2 0 v; exact h9⟩
    · rw [List.getElem_set_ne e] at hx
      have hx2 : x ∈ bs := by rw [← hx]; exact List.getElem_mem _
      refine ⟨(h.box x hx2).1, hk.blk (fun hz => e ?_) (h.box x hx2).2⟩
      rw [List.length_set] at hi
      have h2 : (bs.map (·.1))[j]'(by simpa using hjl) = (bs.map (·.1))[i]'(by simpa using hi) := by
        rw [List.getElem_map, List.getElem_map, hx, hz, (List.getElem?_eq_some_iff.1 hj).2]
      rcases Nat.lt_or_gt_of_ne e with hlt | hlt
      · exact absurd h2 ((List.pairwise_iff_getElem.1 hnd) j i _ _ hlt)
      · exact absurd h2.symm ((List.pairwise_iff_getElem.1 hnd) i j _ _ hlt)
  · have := hzb.1.1; omega
theorem BJ.off {Y : Nat → Prop} (h : BJ w B bs X W) (h2 : B + 1 < W.heap.size) (hk : Kept Y W W') (hY : ∀ b, Y b → b < B) : (∀ x, X x ∨ x = B ∨ x = B + 1 → W'.heap[x]? = W.heap[x]?) ∧ W.heap.size ≤ W'.heap.size :=
  ⟨fun x hx => hk.block x (by rcases hx with hx | rfl | rfl; exact (h.far x hx).2; omega; omega) fun hy => by
    have := hY x hy
    rcases hx with hx | rfl | rfl
    · have := (h.far x hx).1; omega
    · omega
    · omega, hk.size⟩
theorem BJ.taken (h : BJ w B bs X W) (o : Obj) : BJ w B bs X (W.putObj B o) := h.put (Nat.le_refl _) o
theorem wpIn_scope_straight {n : Nat} {P : Program} {Q : Exit → Act → World → Prop} {a : Act} {c : Code} (h : c.wpIn Fence.wide n P (Exit.noGoto Q) a w) : (Code.scope c).wpIn Fence.wide n P Q a w :=
  wpIn_wide.2 (wp_scope_straight (wpIn_wide.1 h))
end Go.Proofs.Ytlafodnaifghcaa.Tr
