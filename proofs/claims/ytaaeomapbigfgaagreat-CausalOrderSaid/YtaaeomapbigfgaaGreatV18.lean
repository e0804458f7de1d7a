/- A vector that is right is what it says; what a Queue keeps that is offered any operations: plainly. -/
import Derived.Test.YtaaeomapbigfgaaGreatV16
import Derived.Test.YtaaeomapbigfgaaGreatV17
namespace Go.Proofs.YtaaeomapbigfgaaGreat
open Go.Proofs.YtaaeomapbigfgaaGreat.St
/-- rising by sites, each Dot one -/
def Rises (A : List Dot) : Prop := A.Pairwise (fun a b => a.site < b.site) ∧ ∀ d ∈ A, d.Ok
theorem chk_rises : ∀ {A : List Dot} {last : Int}, chkV last A = 0 → Rises A ∧ ∀ d ∈ A, last < d.site
  | [], _, _ => ⟨⟨List.Pairwise.nil, fun d h => by simp at h⟩, fun d h => by simp at h⟩
  | x :: A, last, h => by
    unfold chkV at h
    by_cases h1 : isSite x.site
    · rw [if_neg (fun e => e h1)] at h
      by_cases h2 : x.seq < 1 ∨ 2147483647 < x.seq
      · rw [if_pos h2] at h; exact absurd h (by decide)
      rw [if_neg h2] at h
      by_cases h3 : x.site ≤ last
      · rw [if_pos h3] at h; exact absurd h (by decide)
      rw [if_neg h3] at h
      obtain ⟨⟨r1, r2⟩, r3⟩ := chk_rises h
      unfold isSite at h1
      have hx : x.Ok := ⟨h1.1, h1.2, by omega, by omega⟩
      refine ⟨⟨List.pairwise_cons.2 ⟨fun b hb => r3 b hb, r1⟩, fun d hd => ?_⟩, fun d hd => ?_⟩
      · rcases List.mem_cons.1 hd with rfl | hd
        · exact hx
        · exact r2 d hd
      · rcases List.mem_cons.1 hd with rfl | hd
        · omega
        · have := r3 d hd; omega
    · rw [if_pos h1] at h; exact absurd h (by decide)
theorem foldl_none : ∀ (L : List Dot) (f : Nat → Int) (i : Nat), (∀ d ∈ L, d.site ≠ i) → L.foldl sayS f i = f i
  | [], _, _, _ => rfl
  | x :: L, f, i, h => by
    rw [List.foldl_cons, foldl_none L _ i (fun d hd => h d (List.mem_cons_of_mem _ hd))]
    unfold sayS
    rw [if_neg (fun e => h x List.mem_cons_self e.2)]
theorem says_none {L : List Dot} {i : Nat} (h : ∀ d ∈ L, d.site ≠ i) : says L i = 0 := foldl_none L _ i h
theorem foldl_mem : ∀ (L : List Dot) (f : Nat → Int) (d : Dot), Rises L → d ∈ L → f d.site.toNat = 0 → L.foldl sayS f d.site.toNat = d.seq
  | [], _, _, _, h, _ => by simp at h
  | x :: L, f, d, hr, hd, hf => by
    have hok := hr.2 d hd
    have h0 := hok.1
    have h1 := hok.2.2.1
    have hi : ((d.site.toNat : Nat) : Int) = d.site := by omega
    obtain ⟨p1, p2⟩ := List.pairwise_cons.1 hr.1
    rw [List.foldl_cons]
    rcases List.mem_cons.1 hd with rfl | hd
    · rw [foldl_none L _ _ (fun b hb e => by have := p1 b hb; omega)]
      unfold sayS
      rw [if_pos ⟨hok, hi.symm⟩, if_pos (by omega)]
    · refine foldl_mem L _ d ⟨p2, fun b hb => hr.2 b (List.mem_cons_of_mem _ hb)⟩ hd ?_
      unfold sayS
      rw [if_neg (fun e => by have := p1 d hd; omega)]
      exact hf
theorem says_mem {L : List Dot} {d : Dot} (hr : Rises L) (hd : d ∈ L) : says L d.site.toNat = d.seq := foldl_mem L _ d hr hd rfl
theorem rises_eq : ∀ {A B : List Dot}, Rises A → Rises B → (∀ d, d ∈ A ↔ d ∈ B) → A = B
  | [], [], _, _, _ => rfl
  | [], b :: B, _, _, h => by have := (h b).2 List.mem_cons_self; simp at this
  | a :: A, [], _, _, h => by have := (h a).1 List.mem_cons_self; simp at this
  | a :: A, b :: B, ha, hb, h => by
    obtain ⟨p1, p2⟩ := List.pairwise_cons.1 ha.1
    obtain ⟨q1, q2⟩ := List.pairwise_cons.1 hb.1
    have hab : a = b := by
      rcases List.mem_cons.1 ((h a).1 List.mem_cons_self) with e | e
      · exact e
      · rcases List.mem_cons.1 ((h b).2 List.mem_cons_self) with e2 | e2
        · exact e2.symm
        · have h1 := q1 a e
          have h2 := p1 b e2
          omega
    subst hab
    rw [rises_eq ⟨p2, fun d hd => ha.2 d (List.mem_cons_of_mem _ hd)⟩ ⟨q2, fun d hd => hb.2 d (List.mem_cons_of_mem _ hd)⟩ (fun d => ?_)]
    constructor
    · intro hd
      rcases List.mem_cons.1 ((h d).1 (List.mem_cons_of_mem _ hd)) with e | e
      · subst e; have := p1 d hd; omega
      · exact e
    · intro hd
      rcases List.mem_cons.1 ((h d).2 (List.mem_cons_of_mem _ hd)) with e | e
      · subst e; have := q1 d hd; omega
      · exact e
theorem mem_vecOf {f : Nat → Int} {n : Nat} {d : Dot} : d ∈ vecOf f n ↔ ∃ i, i < n ∧ 0 < f i ∧ d = ⟨i, f i⟩ := by
  unfold vecOf
  rw [List.mem_filterMap]
  constructor
  · rintro ⟨i, hi, h⟩
    by_cases h0 : 0 < f i
    · rw [if_pos h0] at h
      injection h with h
      exact ⟨i, List.mem_range.1 hi, h0, h.symm⟩
    · rw [if_neg h0] at h; cases h
  · rintro ⟨i, hi, h0, rfl⟩
    exact ⟨i, List.mem_range.2 hi, by rw [if_pos h0]⟩
theorem vec_id {A : List Dot} (h : chkV 0 A = 0) : vecOf (says A) 17 = A := by
  have hA := (chk_rises h).1
  have hB := (chk_rises (chk_vec (f := says A) (fun i => (says_bd A i).2) (fun i hi => says_out A i hi))).1
  refine rises_eq hB hA fun d => ?_
  rw [mem_vecOf]
  constructor
  · rintro ⟨i, hi, h0, rfl⟩
    obtain ⟨e, he, hs⟩ : ∃ e ∈ A, e.site = i := by
      refine Classical.byContradiction fun hn => ?_
      rw [says_none (fun e he hs => hn ⟨e, he, hs⟩)] at h0
      omega
    have h1 := says_mem hA he
    have h2 : e.site.toNat = i := by omega
    rw [h2] at h1
    have h3 : (⟨(i : Int), says A i⟩ : Dot) = e := by rw [Dot.ext_iff]; exact ⟨hs.symm, h1⟩
    rw [h3]
    exact he
  · intro hd
    have hok := hA.2 d hd
    have h0 := hok.1
    have h4 := hok.2.1
    have h5 := hok.2.2.1
    have h1 := says_mem hA hd
    exact ⟨d.site.toNat, by omega, by omega, by rw [Dot.ext_iff]; exact ⟨by show d.site = ((d.site.toNat : Nat) : Int); omega, h1.symm⟩⟩
theorem merge_id {A : List Dot} (h : chkV 0 A = 0) : mergeV A [] = A := by
  have e : maxV A [] = says A := by
    funext i
    unfold maxV
    have h1 : says [] i = 0 := says_none (fun d hd => by simp at hd)
    have := (says_bd A i).1
    rw [h1, if_neg (by omega)]
  unfold mergeV
  rw [e]
  exact vec_id h
/-- delivered one behind the other from a vector on -/
def Chain : List Dot → List Cont → List Dot → Prop
  | V, [], V' => V' = V
  | V, c :: O, V' => c.1.dot.Ok ∧ Ent.can V c.1.dot c.2.1 ∧ Chain (addV V c.1.dot) O V'
theorem Chain.snoc : ∀ {O : List Cont} {V V' : List Dot} {c : Cont}, Chain V O V' → c.1.dot.Ok → Ent.can V' c.1.dot c.2.1 → Chain V (O ++ [c]) (addV V' c.1.dot)
  | [], V, V', c, h, hk, hc => by
    have h : V' = V := h
    subst h
    exact ⟨hk, hc, rfl⟩
  | x :: O, V, V', c, h, hk, hc => ⟨h.1, h.2.1, Chain.snoc (O := O) h.2.2 hk hc⟩
theorem Chain.grows : ∀ {O : List Cont} {V V' : List Dot}, Chain V O V' → growsV V V'
  | [], V, V', h => by
    have h : V' = V := h
    subst h
    exact growsV.refl _
  | x :: O, V, V', h => (growsV.add h.1 h.2.1.1).trans (Chain.grows h.2.2)
/-- those that wait -/
structure OrdP (P : Key → Prop) (V : List Dot) (W : List Cont) : Prop where
  mem : ∀ c ∈ W, c.1.dot.Ok ∧ P (ckey c)
  nohas : ∀ c ∈ W, ¬ hasV V c.1.dot
  nodup : (W.map (·.1.dot)).Nodup
theorem OrdP.mono {P Q : Key → Prop} {V : List Dot} {W : List Cont} (h : OrdP P V W) (hPQ : ∀ k, P k → Q k) : OrdP Q V W := ⟨fun c hc => ⟨(h.mem c hc).1, hPQ _ (h.mem c hc).2⟩, h.nohas, h.nodup⟩
theorem OrdP.sub {P : Key → Prop} {V : List Dot} {W W' : List Cont} (h : OrdP P V W) (hs : W'.Sublist W) : OrdP P V W' := ⟨fun c hc => h.mem c (hs.subset hc), fun c hc => h.nohas c (hs.subset hc), h.nodup.sublist (hs.map _)⟩
theorem OrdP.deliver {P : Key → Prop} {V : List Dot} {W : List Cont} (h : OrdP P V W) {d : Dot} (hd : d.Ok) (hc : d.seq = getV V d.site + 1) (hn : ∀ c ∈ W, c.1.dot ≠ d) : OrdP P (addV V d) W :=
  ⟨h.mem, fun c hcw hh => by
    rcases (has_add hd (h.mem c hcw).1 hc).1 hh with e | e
    · exact h.nohas c hcw e
    · exact hn c hcw e, h.nodup⟩
theorem OrdP.erase {P : Key → Prop} {V : List Dot} {W : List Cont} (h : OrdP P V W) {i : Nat} {e : Cont} (he : W[i]? = some e) (hc : Ent.can V e.1.dot e.2.1) : OrdP P (addV V e.1.dot) (W.eraseIdx i) := by
  refine (h.sub (List.eraseIdx_sublist _ _)).deliver (h.mem e (List.mem_of_getElem? he)).1 hc.1 (fun c hcw e1 => ?_)
  have hg : (W.map (·.1.dot))[i]? = some e.1.dot := by rw [List.getElem?_map, he]; rfl
  have := nodup_erase h.nodup hg
  rw [map_erase] at this
  exact this (List.mem_map.2 ⟨c, hcw, e1⟩)
def NoCan (V : List Dot) (W : List Cont) : Prop := ∀ c ∈ W, ¬ Ent.can V c.1.dot c.2.1
theorem cdrain_ord {P : Key → Prop} {V0 : List Dot} : ∀ (n : Nat) (s : CQ), s.W.length ≤ n → OrdP P s.V s.W → Chain V0 s.O s.V →
    OrdP P (cdrain n s).V (cdrain n s).W ∧ NoCan (cdrain n s).V (cdrain n s).W ∧ Chain V0 (cdrain n s).O (cdrain n s).V ∧ (cdrain n s).W.length ≤ s.W.length ∧ growsV s.V (cdrain n s).V
  | 0, s, hn, h, hc => by
    have hw : s.W = [] := List.length_eq_zero_iff.1 (by omega)
    exact ⟨h, fun c hcw => by rw [show (cdrain 0 s).W = s.W from rfl, hw] at hcw; simp at hcw, hc, Nat.le_refl _, growsV.refl _⟩
  | n + 1, s, hn, h, hc => by
    unfold cdrain
    cases h1 : s.W.findIdx? (fun k => decide (Ent.can s.V k.1.dot k.2.1)) with
    | none =>
      exact ⟨h, fun c hcw => by simpa using (List.findIdx?_eq_none_iff.1 h1) c hcw, hc, Nat.le_refl _, growsV.refl _⟩
    | some i =>
      obtain ⟨hi, hp, _⟩ := List.findIdx?_eq_some_iff_getElem.1 h1
      have he : s.W[i]? = some s.W[i] := List.getElem?_eq_getElem hi
      have hcan : Ent.can s.V (s.W[i]).1.dot (s.W[i]).2.1 := of_decide_eq_true hp
      simp only [he]
      have hok := (h.mem _ (List.getElem_mem hi)).1
      have hlen : (s.W.eraseIdx i).length = s.W.length - 1 := by rw [List.length_eraseIdx, if_pos hi]
      obtain ⟨a1, a2, a3, a4, a5⟩ := cdrain_ord (P := P) (V0 := V0) n ⟨addV s.V (s.W[i]).1.dot, s.W.eraseIdx i, s.O ++ [s.W[i]]⟩ (by show (s.W.eraseIdx i).length ≤ n; omega) (h.erase he hcan) (hc.snoc hok hcan)
      exact ⟨a1, a2, a3, by have a4 : _ ≤ (s.W.eraseIdx i).length := a4; omega, (growsV.add hok hcan.1).trans a5⟩
theorem cgr_le (W : List Cont) : ∀ n, cgr W n ≤ n
  | 0 => Nat.le_refl _
  | n + 1 => by
    unfold cgr
    have := cgr_le W n
    split
    · split <;> omega
    · omega
theorem cgr_lt (W : List Cont) (n : Nat) : cgr W (n + 1) ≤ n := by
  unfold cgr
  have := cgr_le W n
  split
  · split <;> omega
  · exact this
theorem pick42 (o : Option Cont) (d : Dot) : (match o with | some f => (if f.1.dot = d then (4 : Int) else 2) | none => 2) = 4 ∨ (match o with | some f => (if f.1.dot = d then (4 : Int) else 2) | none => 2) = 2 := by
  cases o with
  | none => exact .inr rfl
  | some f =>
    by_cases h : f.1.dot = d
    · exact .inl (if_pos h)
    · exact .inr (if_neg h)
/-- all that is known of a Queue out of which all was taken -/
structure OrdQ (P : Key → Prop) (hold : Int) (V : List Dot) (W : List Cont) : Prop where
  p : OrdP P V W
  no : NoCan V W
  len : (W.length : Int) ≤ hold
theorem coffer_ord {P : Key → Prop} {hold c : Int} {s : CQ} {e : Cont} (h : OrdQ P hold s.V s.W) (ho : s.O = []) (hok : c = 0 → e.1.dot.Ok ∧ P (ckey e)) :
    OrdQ P hold (coffer hold c s e).2.V (coffer hold c s e).2.W ∧ Chain s.V (coffer hold c s e).2.O (coffer hold c s e).2.V ∧ ((c ≠ 0 ∧ (coffer hold c s e).1 = 0) ∨ (c = 0 ∧ 1 ≤ (coffer hold c s e).1 ∧ (coffer hold c s e).1 ≤ 4)) ∧ ((coffer hold c s e).1 = 1 → hasV (coffer hold c s e).2.V e.1.dot) := by
  have hch : Chain s.V s.O s.V := by rw [ho]; rfl
  unfold coffer
  by_cases h0 : c ≠ 0
  · rw [if_pos h0]
    exact ⟨h, hch, .inl ⟨h0, rfl⟩, fun e1 => absurd (show (0 : Int) = 1 from e1) (by decide)⟩
  rw [if_neg h0]
  have h0' : c = 0 := Classical.byContradiction h0
  obtain ⟨hd, hP⟩ := hok h0'
  by_cases h1 : hasV s.V e.1.dot ∨ (s.W.any fun k => decide (k.1.dot = e.1.dot)) = true
  · rw [if_pos h1]
    exact ⟨h, hch, .inr ⟨h0', show (1 : Int) ≤ 3 by decide, show (3 : Int) ≤ 4 by decide⟩, fun e1 => absurd (show (3 : Int) = 1 from e1) (by decide)⟩
  rw [if_neg h1]
  have hnh : ¬ hasV s.V e.1.dot := fun e1 => h1 (.inl e1)
  have hnw : ∀ k ∈ s.W, k.1.dot ≠ e.1.dot := fun k hk e1 => h1 (.inr (List.any_eq_true.2 ⟨k, hk, decide_eq_true e1⟩))
  by_cases h2 : Ent.can s.V e.1.dot e.2.1
  · rw [if_pos h2]
    obtain ⟨a1, a2, a3, a4, a5⟩ := cdrain_ord (P := P) (V0 := s.V) s.W.length ⟨addV s.V e.1.dot, s.W, s.O ++ [e]⟩ (Nat.le_refl _) (h.p.deliver hd h2.1 hnw) (hch.snoc hd h2)
    refine ⟨⟨a1, a2, Int.le_trans (Int.ofNat_le.2 a4) h.len⟩, a3, .inr ⟨h0', show (1 : Int) ≤ 1 by decide, show (1 : Int) ≤ 4 by decide⟩, fun _ => ?_⟩
    exact growsV.has a5 ((has_add hd hd h2.1).2 (.inr rfl))
  rw [if_neg h2]
  have hbig : OrdP P s.V (s.W ++ [e]) := by
    refine ⟨fun k hk => ?_, fun k hk => ?_, ?_⟩
    · rcases List.mem_append.1 hk with hk | hk
      · exact h.p.mem k hk
      · rw [List.mem_singleton.1 hk]; exact ⟨hd, hP⟩
    · rcases List.mem_append.1 hk with hk | hk
      · exact h.p.nohas k hk
      · rw [List.mem_singleton.1 hk]; exact hnh
    · rw [List.map_append]
      refine List.nodup_append.2 ⟨h.p.nodup, by simp, fun a ha b hb => ?_⟩
      obtain ⟨k, hk, rfl⟩ := List.mem_map.1 ha
      obtain rfl : b = e.1.dot := by simpa using hb
      exact hnw k hk
  have hno : NoCan s.V (s.W ++ [e]) := fun k hk => by
    rcases List.mem_append.1 hk with hk | hk
    · exact h.no k hk
    · rw [List.mem_singleton.1 hk]; exact h2
  by_cases h3 : (s.W.length : Int) + 1 ≤ hold
  · rw [if_pos h3]
    exact ⟨⟨hbig, hno, by rw [List.length_append, List.length_singleton]; omega⟩, hch, .inr ⟨h0', show (1 : Int) ≤ 2 by decide, show (2 : Int) ≤ 4 by decide⟩, fun e1 => absurd (show (2 : Int) = 1 from e1) (by decide)⟩
  · rw [if_neg h3]
    have h42 := pick42 ((s.W ++ [e])[cgr (s.W ++ [e]) (s.W.length + 1)]?) e.1.dot
    have hk := cgr_lt (s.W ++ [e]) s.W.length
    have hlen : ((s.W ++ [e]).eraseIdx (cgr (s.W ++ [e]) (s.W.length + 1))).length = s.W.length := by
      rw [List.length_eraseIdx, if_pos (by rw [List.length_append, List.length_singleton]; omega), List.length_append, List.length_singleton]
      omega
    refine ⟨⟨hbig.sub (List.eraseIdx_sublist _ _), fun k hk => hno k ((List.eraseIdx_sublist _ _).subset hk), by show ((((s.W ++ [e]).eraseIdx (cgr (s.W ++ [e]) (s.W.length + 1))).length : Nat) : Int) ≤ hold; rw [hlen]; exact h.len⟩, hch, .inr ⟨h0', ?_, ?_⟩, fun e1 => ?_⟩
    · rcases h42 with h | h
      · exact Int.le_trans (show (1 : Int) ≤ 4 by decide) (Int.le_of_eq h.symm)
      · exact Int.le_trans (show (1 : Int) ≤ 2 by decide) (Int.le_of_eq h.symm)
    · rcases h42 with h | h
      · exact Int.le_of_eq h
      · exact Int.le_trans (Int.le_of_eq h) (show (2 : Int) ≤ 4 by decide)
    · rcases h42 with h | h
      · exact absurd (show (4 : Int) = 1 from h.symm.trans e1) (by decide)
      · exact absurd (show (2 : Int) = 1 from h.symm.trans e1) (by decide)
end Go.Proofs.YtaaeomapbigfgaaGreat
