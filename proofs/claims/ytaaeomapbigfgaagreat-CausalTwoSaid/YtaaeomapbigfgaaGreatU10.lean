/- What becomes of a closed set of operations; no program in sight. -/
import Derived.Test.YtaaeomapbigfgaaGreatU9
namespace Go.Proofs.YtaaeomapbigfgaaGreat
open Go.Proofs.YtaaeomapbigfgaaGreat.St
theorem says_vecOf {f : Nat → Int} (hb : ∀ i, 0 ≤ f i ∧ f i ≤ 2147483647) (ho : ∀ i, ¬ (1 ≤ i ∧ i ≤ 16) → f i = 0) (i : Nat) : ∀ n, n ≤ 17 → says (vecOf f n) i = if i < n then f i else 0
  | 0, _ => by simp [vecOf, says]
  | n + 1, hn => by
    have ih := says_vecOf hb ho i n (by omega)
    rw [vecOf_succ]
    by_cases hp : 0 < f n
    · rw [if_pos hp, says_snoc]
      have hr : 1 ≤ n ∧ n ≤ 16 := by
        by_cases h : 1 ≤ n ∧ n ≤ 16
        · exact h
        · have := ho n h; omega
      have hok : (⟨(n : Int), f n⟩ : Dot).Ok := by
        have := hb n
        unfold Dot.Ok
        simp only
        omega
      unfold sayS
      by_cases hi : n = i
      · subst hi
        rw [if_pos ⟨hok, rfl⟩, ih, if_neg (Nat.lt_irrefl _), if_pos (show (0 : Int) < (⟨(n : Int), f n⟩ : Dot).seq from hp), if_pos (Nat.lt_succ_self _)]
      · rw [if_neg (fun h => hi (by have := h.2; simp only at this; omega)), ih]
        by_cases h1 : i < n
        · rw [if_pos h1, if_pos (by omega)]
        · rw [if_neg h1, if_neg (by omega)]
    · rw [if_neg hp, ih]
      have := hb n
      by_cases h1 : i < n
      · rw [if_pos h1, if_pos (by omega)]
      · rw [if_neg h1]
        by_cases h2 : i < n + 1
        · rw [if_pos h2, show i = n by omega]; omega
        · rw [if_neg h2]
theorem says_vec {f : Nat → Int} (hb : ∀ i, 0 ≤ f i ∧ f i ≤ 2147483647) (ho : ∀ i, ¬ (1 ≤ i ∧ i ≤ 16) → f i = 0) (i : Nat) : says (vecOf f 17) i = f i := by
  rw [says_vecOf hb ho i 17 (Nat.le_refl _)]
  by_cases h : i < 17
  · rw [if_pos h]
  · rw [if_neg h, ho i (by omega)]
theorem chk_range {f : Nat → Int} (hb : ∀ i, f i ≤ 2147483647) (ho : ∀ i, ¬ (1 ≤ i ∧ i ≤ 16) → f i = 0) : ∀ (m a : Nat) (last : Int), last < a → chkV last ((List.range' a m).filterMap fun i => if 0 < f i then some ⟨i, f i⟩ else none) = 0
  | 0, _, _, _ => rfl
  | m + 1, a, last, hl => by
    rw [List.range'_succ]
    by_cases hp : 0 < f a
    · have hr : 1 ≤ a ∧ a ≤ 16 := by
        by_cases h : 1 ≤ a ∧ a ≤ 16
        · exact h
        · have := ho a h; omega
      rw [List.filterMap_cons_some (b := (⟨(a : Int), f a⟩ : Dot)) (by simp [hp])]
      have := hb a
      unfold chkV
      rw [if_neg (by simp only [isSite]; omega), if_neg (by simp only; omega), if_neg (by simp only; omega)]
      exact chk_range hb ho m (a + 1) a (by omega)
    · rw [List.filterMap_cons_none (by simp [hp])]
      exact chk_range hb ho m (a + 1) last (by omega)
theorem chk_vec {f : Nat → Int} (hb : ∀ i, f i ≤ 2147483647) (ho : ∀ i, ¬ (1 ≤ i ∧ i ≤ 16) → f i = 0) : chkV 0 (vecOf f 17) = 0 := by
  unfold vecOf
  rw [List.range_eq_range', List.range'_succ, List.filterMap_cons_none (by rw [ho 0 (by omega)]; simp)]
  exact chk_range hb ho 16 1 0 (by decide)
theorem says_add {V : List Dot} {d : Dot} (hd : d.Ok) (i : Nat) : says (addV V d) i = if (i : Int) = d.site then d.seq else says V i := by
  unfold Dot.Ok at hd
  refine says_vec (f := fun i : Nat => if (i : Int) = d.site then d.seq else says V i) (fun i => ?_) (fun i hi => ?_) i
  · have := says_bd V i
    split <;> omega
  · rw [if_neg (by omega)]
    exact says_out V i hi
theorem get_add {V : List Dot} {d : Dot} (hd : d.Ok) (t : Int) : getV (addV V d) t = if t = d.site then d.seq else getV V t := by
  have hd2 := hd
  unfold Dot.Ok at hd2
  unfold getV
  by_cases hs : isSite t
  · rw [if_pos hs, if_pos hs, says_add hd]
    have : ((t.toNat : Nat) : Int) = t := by unfold isSite at hs; omega
    rw [this]
  · rw [if_neg hs, if_neg hs, if_neg (fun h => hs (by unfold isSite; omega))]
theorem has_add {V : List Dot} {d x : Dot} (hd : d.Ok) (hx : x.Ok) (hc : d.seq = getV V d.site + 1) : hasV (addV V d) x ↔ hasV V x ∨ x = d := by
  unfold hasV
  rw [get_add hd, Dot.ext_iff]
  unfold Dot.Ok at hx
  by_cases h : x.site = d.site
  · rw [if_pos h, h]
    omega
  · rw [if_neg h]
    simp [h]
def growsV (V V' : List Dot) : Prop := ∀ u, says V u ≤ says V' u
theorem growsV.refl (V : List Dot) : growsV V V := fun _ => Int.le_refl _
theorem growsV.trans {A B C : List Dot} (h : growsV A B) (k : growsV B C) : growsV A C := fun u => Int.le_trans (h u) (k u)
theorem growsV.get {V V' : List Dot} (h : growsV V V') (t : Int) : getV V t ≤ getV V' t := by
  unfold getV
  split
  · exact h _
  · exact Int.le_refl _
theorem growsV.has {V V' : List Dot} (h : growsV V V') {d : Dot} (hd : hasV V d) : hasV V' d := ⟨hd.1, Int.le_trans hd.2 (h.get _)⟩
theorem growsV.add {V : List Dot} {d : Dot} (hd : d.Ok) (hc : d.seq = getV V d.site + 1) : growsV V (addV V d) := fun u => by
  rw [says_add hd]
  split
  · rename_i h
    have : getV V d.site = says V u := by
      unfold getV
      unfold Dot.Ok at hd
      rw [if_pos (by unfold isSite; omega)]
      congr 1
      omega
    omega
  · exact Int.le_refl _
theorem sumTo_one {f f' : Nat → Int} {k : Nat} (hk : f' k = f k + 1) (ho : ∀ i, i ≠ k → f' i = f i) : ∀ n, sumTo f' n = sumTo f n + (if k < n then 1 else 0)
  | 0 => by simp [sumTo]
  | n + 1 => by
    show sumTo f' n + f' n = sumTo f n + f n + _
    rw [sumTo_one hk ho n]
    by_cases h : n = k
    · subst h
      rw [hk, if_neg (by omega), if_pos (by omega)]
      omega
    · rw [ho n h]
      by_cases h1 : k < n
      · rw [if_pos h1, if_pos (by omega)]; omega
      · rw [if_neg h1, if_neg (by omega)]; omega
theorem sum_add {V : List Dot} {d : Dot} (hd : d.Ok) (hc : d.seq = getV V d.site + 1) : sumV (addV V d) = sumV V + 1 := by
  have hd2 := hd
  unfold Dot.Ok at hd2
  have hg : getV V d.site = says V d.site.toNat := by
    unfold getV
    rw [if_pos (by unfold isSite; omega)]
  unfold sumV
  rw [sumTo_one (f := says V) (k := d.site.toNat) (by rw [says_add hd, if_pos (by omega)]; omega) (fun i hi => by rw [says_add hd, if_neg (by omega)]), if_pos (by omega)]
theorem nodup_le {α : Type} [DecidableEq α] : ∀ {L M : List α}, L.Nodup → (∀ x ∈ L, x ∈ M) → L.length ≤ M.length
  | [], _, _, _ => Nat.zero_le _
  | x :: L, M, hn, hs => by
    rw [List.nodup_cons] at hn
    have hm := hs x List.mem_cons_self
    have := nodup_le (L := L) (M := M.erase x) hn.2 (fun y hy => (List.mem_erase_of_ne (fun e => by subst e; exact hn.1 hy)).2 (hs y (List.mem_cons_of_mem _ hy)))
    rw [List.length_erase_of_mem hm] at this
    have hp := List.length_pos_of_mem hm
    simp only [List.length_cons]
    omega
theorem nodup_erase {α : Type} : ∀ {L : List α} {i : Nat} {x : α}, L.Nodup → L[i]? = some x → x ∉ L.eraseIdx i
  | [], _, _, _, h => by simp at h
  | y :: L, 0, x, hn, h => by
    rw [List.nodup_cons] at hn
    have : y = x := by simpa using h
    subst this
    simpa using hn.1
  | y :: L, i + 1, x, hn, h => by
    rw [List.nodup_cons] at hn
    have hx : L[i]? = some x := by simpa using h
    have ih := nodup_erase hn.2 hx
    rw [List.eraseIdx_cons_succ, List.mem_cons]
    rintro (rfl | h2)
    · exact hn.1 (List.mem_of_getElem? hx)
    · exact ih h2
theorem map_erase {α β : Type} (f : α → β) : ∀ (L : List α) (i : Nat), (L.map f).eraseIdx i = (L.eraseIdx i).map f
  | [], _ => rfl
  | _ :: _, 0 => rfl
  | x :: L, i + 1 => by simp [map_erase f L i]
abbrev Key := Dot × List Dot
def key (e : Ent) : Key := (e.v.dot, e.D)
def dotE' (e : Ent) : Dot := e.v.dot
structure Pre (K : List Key) (s : QS) : Prop where
  w_in : ∀ e ∈ s.W, key e ∈ K
  w_nodup : (s.W.map dotE').Nodup
  w_had : ∀ e ∈ s.W, ¬ hasV s.V e.v.dot
  o_in : ∀ e ∈ s.O, key e ∈ K
  o_nodup : (s.O.map dotE').Nodup
  o_has : ∀ e ∈ s.O, hasV s.V e.v.dot
  has_o : ∀ k ∈ K, hasV s.V k.1 → k.1 ∈ s.O.map dotE'
  sum : sumV s.V = s.O.length
  kind : ∀ e ∈ s.W ++ s.O, e.v.kind = 3
theorem Pre.none {K : List Key} (hK : ∀ k ∈ K, k.1.Ok) : Pre K ⟨[], [], []⟩ where
  w_in := by simp
  w_nodup := by simp
  w_had := by simp
  o_in := by simp
  o_nodup := by simp
  o_has := by simp
  has_o := fun k hk h => by
    have := hK k hk
    unfold hasV getV at h
    unfold Dot.Ok at this
    have h0 : says [] k.1.site.toNat = 0 := rfl
    rw [h0] at h
    split at h <;> omega
  sum := by rfl
  kind := by simp
section
variable {K : List Key} {s : QS} {e : Ent}
theorem Pre.deliver (hK : ∀ k ∈ K, k.1.Ok) (h : Pre K s) {W' : List Ent} (hsub : W'.Sublist s.W) (hek : key e ∈ K) (hkind : e.v.kind = 3) (hne : e.v.dot ∉ W'.map dotE') (hc : Ent.can s.V e.v.dot e.D) : Pre K ⟨addV s.V e.v.dot, W', s.O ++ [e]⟩ := by
  have hd : e.v.dot.Ok := hK _ hek
  have hin : ∀ x ∈ W', x ∈ s.W := fun x hx => hsub.subset hx
  have hnot : ¬ hasV s.V e.v.dot := fun hh => by have := hh.2; have := hc.1; omega
  refine ⟨fun x hx => h.w_in x (hin x hx), h.w_nodup.sublist (hsub.map _), ?_, ?_, ?_, ?_, ?_, ?_, ?_⟩
  · intro x hx hh
    have hxo : x.v.dot.Ok := hK _ (h.w_in x (hin x hx))
    rcases (has_add hd hxo hc.1).1 hh with hh | hh
    · exact h.w_had x (hin x hx) hh
    · exact hne (hh ▸ List.mem_map_of_mem (f := dotE') hx)
  · intro x hx
    rcases List.mem_append.1 hx with hx | hx
    · exact h.o_in x hx
    · rw [List.mem_singleton.1 hx]; exact hek
  · show ((s.O ++ [e]).map dotE').Nodup
    rw [List.map_append, List.nodup_append]
    refine ⟨h.o_nodup, by simp, ?_⟩
    intro a ha b hb hab
    obtain ⟨x, hx, rfl⟩ := List.mem_map.1 ha
    have hb : b = e.v.dot := by simpa [dotE'] using hb
    subst hb
    have := h.o_has x hx
    rw [show x.v.dot = e.v.dot from hab] at this
    exact hnot this
  · intro x hx
    show hasV (addV s.V e.v.dot) _
    rcases List.mem_append.1 hx with hx | hx
    · exact (growsV.add hd hc.1).has (h.o_has x hx)
    · rw [List.mem_singleton.1 hx]; exact (has_add hd hd hc.1).2 (.inr rfl)
  · intro k hk hh
    show k.1 ∈ (s.O ++ [e]).map dotE'
    rw [List.map_append, List.mem_append]
    rcases (has_add hd (hK k hk) hc.1).1 hh with hh | hh
    · exact .inl (h.has_o k hk hh)
    · exact .inr (by simp [dotE', hh])
  · show sumV (addV s.V e.v.dot) = ((s.O ++ [e]).length : Int)
    rw [sum_add hd hc.1, h.sum]
    simp
  · intro x hx
    have hx : x ∈ W' ++ (s.O ++ [e]) := hx
    rw [← List.append_assoc] at hx
    rcases List.mem_append.1 hx with hx | hx
    · rcases List.mem_append.1 hx with hx | hx
      · exact h.kind x (List.mem_append.2 (.inl (hin x hx)))
      · exact h.kind x (List.mem_append.2 (.inr hx))
    · rw [List.mem_singleton.1 hx]; exact hkind
theorem drain_ok (hK : ∀ k ∈ K, k.1.Ok) : ∀ (n : Nat) (s : QS), s.W.length = n → Pre K s → Pre K (drain n s) ∧ (∀ e ∈ (drain n s).W, ¬ Ent.can (drain n s).V e.v.dot e.D) ∧ (∀ e ∈ s.W, e ∈ (drain n s).W ∨ hasV (drain n s).V e.v.dot) ∧ growsV s.V (drain n s).V ∧ s.O <+: (drain n s).O
  | 0, s, hn, h => by
    have : s.W = [] := List.eq_nil_of_length_eq_zero hn
    exact ⟨h, fun e he => by have he : e ∈ s.W := he; rw [this] at he; simp at he, fun e he => .inl he, growsV.refl _, List.prefix_refl _⟩
  | n + 1, s, hn, h => by
    by_cases hno : ∀ e ∈ s.W, ¬ Ent.can s.V e.v.dot e.D
    · rw [drain_none hno]
      exact ⟨h, hno, fun e he => .inl he, growsV.refl _, List.prefix_refl _⟩
    · have hnn : s.W.findIdx? (Ent.canB s.V) ≠ none := fun hf => hno fun e he hc => by
        have := List.findIdx?_eq_none_iff.1 hf e he
        simp [Ent.canB, hc] at this
      obtain ⟨i, hi⟩ := Option.ne_none_iff_exists'.1 hnn
      obtain ⟨hil, hib, hij⟩ := List.findIdx?_eq_some_iff_getElem.1 hi
      have hc : Ent.can s.V s.W[i].v.dot s.W[i].D := by simpa [Ent.canB] using hib
      have he : s.W[i]? = some s.W[i] := List.getElem?_eq_getElem hil
      have hd := drain_some hn he hc (fun e he hc2 => by
        obtain ⟨j, hj⟩ := List.getElem?_of_mem he
        rw [List.getElem?_take] at hj
        split at hj
        · rename_i hji
          obtain ⟨hjl, hje⟩ := List.getElem?_eq_some_iff.1 hj
          have := hij j hji
          rw [hje] at this
          simp [Ent.canB, hc2] at this
        · cases hj)
      have hl : (s.take i s.W[i]).W.length = n := by show (s.W.eraseIdx i).length = n; rw [List.length_eraseIdx, if_pos hil]; omega
      rw [hn, hl] at hd
      rw [hd]
      have hmem : s.W[i] ∈ s.W := List.getElem_mem hil
      have hne : s.W[i].v.dot ∉ (s.W.eraseIdx i).map dotE' := by
        have hm := nodup_erase (i := i) (x := s.W[i].v.dot) h.w_nodup (by rw [List.getElem?_map, he]; rfl)
        rwa [map_erase] at hm
      have hp := h.deliver hK (List.eraseIdx_sublist s.W i) (h.w_in _ hmem) (h.kind _ (List.mem_append.2 (.inl hmem))) hne hc
      obtain ⟨h1, h2, h3, h4, h5⟩ := drain_ok hK n (s.take i s.W[i]) hl hp
      have hdok : s.W[i].v.dot.Ok := hK _ (h.w_in _ hmem)
      refine ⟨h1, h2, fun e hew => ?_, (growsV.add hdok hc.1).trans h4, (List.prefix_append _ _).trans h5⟩
      by_cases hin : e ∈ s.W.eraseIdx i
      · exact h3 e hin
      · obtain ⟨j, hj⟩ := List.getElem?_of_mem hew
        have hji : j = i := by
          by_cases hji : j = i
          · exact hji
          · exfalso
            refine hin (List.mem_eraseIdx_iff_getElem?.2 ⟨j, hji, hj⟩)
        subst hji
        rw [he] at hj
        injection hj with hj
        subst hj
        exact .inr (h4.has ((has_add hdok hdok hc.1).2 (.inr rfl)))
def QOk (K : List Key) (s : QS) : Prop := Pre K s ∧ ∀ e ∈ s.W, ¬ Ent.can s.V e.v.dot e.D
theorem hasDot_false {W : List Ent} {d : Dot} (h : ¬ hasDot W d = true) : d ∉ W.map dotE' := fun hm => by
  obtain ⟨e, he, hd⟩ := List.mem_map.1 hm
  refine h (List.any_eq_true.2 ⟨e, he, ?_⟩)
  have hd : e.v.dot = d := hd
  simp [hd]
theorem hasDot_true {W : List Ent} {d : Dot} (h : hasDot W d = true) : ∃ e ∈ W, e.v.dot = d := by
  obtain ⟨e, he, hd⟩ := List.any_eq_true.1 h
  exact ⟨e, he, by simpa using hd⟩
theorem Pre.wait (h : Pre K s) (hek : key e ∈ K) (hkind : e.v.kind = 3) (hh : ¬ hasV s.V e.v.dot) (hd : e.v.dot ∉ s.W.map dotE') {W' : List Ent} (hsub : W'.Sublist (s.W ++ [e])) : Pre K ⟨s.V, W', s.O⟩ := by
  have hall : ∀ x ∈ W', x ∈ s.W ∨ x = e := fun x hx => by
    rcases List.mem_append.1 (hsub.subset hx) with h | h
    · exact .inl h
    · exact .inr (List.mem_singleton.1 h)
  refine ⟨fun x hx => ?_, ?_, fun x hx => ?_, h.o_in, h.o_nodup, h.o_has, h.has_o, h.sum, fun x hx => ?_⟩
  · rcases hall x hx with h1 | rfl
    · exact h.w_in x h1
    · exact hek
  · refine List.Nodup.sublist (hsub.map _) ?_
    rw [List.map_append, List.nodup_append]
    refine ⟨h.w_nodup, by simp, ?_⟩
    intro a ha b hb hab
    have hb : b = e.v.dot := by simpa [dotE'] using hb
    exact hd (by rw [← hb, ← hab]; exact ha)
  · rcases hall x hx with h1 | rfl
    · exact h.w_had x h1
    · exact hh
  · have hx : x ∈ W' ++ s.O := hx
    rcases List.mem_append.1 hx with hx | hx
    · rcases hall x hx with h1 | rfl
      · exact h.kind x (List.mem_append.2 (.inl h1))
      · exact hkind
    · exact h.kind x (List.mem_append.2 (.inr hx))
omit K in
theorem same_key : ∀ {K : List Key}, (K.map (·.1)).Nodup → ∀ {a b : Key}, a ∈ K → b ∈ K → a.1 = b.1 → a = b
  | [], _, _, _, ha, _, _ => by simp at ha
  | x :: r, hu, a, b, ha, hb, h => by
    rw [List.map_cons, List.nodup_cons] at hu
    rcases List.mem_cons.1 ha with rfl | ha2
    · rcases List.mem_cons.1 hb with rfl | hb
      · rfl
      · exact absurd (List.mem_map.2 ⟨b, hb, h.symm⟩) hu.1
    · rcases List.mem_cons.1 hb with rfl | hb2
      · exact absurd (List.mem_map.2 ⟨a, ha2, h⟩ : b.1 ∈ r.map (·.1)) hu.1
      · exact same_key hu.2 ha2 hb2 h
/-- what an offer does to a queue that gets only what is of the set -/
theorem offer_ok (hK : ∀ k ∈ K, k.1.Ok) (hu : (K.map (·.1)).Nodup) {hold a : Int} {s' : QS} (h : OfferIs hold s 0 e a s') (ho : QOk K s) (hek : key e ∈ K) (hkind : e.v.kind = 3) :
    QOk K s' ∧ growsV s.V s'.V ∧ s.O <+: s'.O ∧ (hasV s'.V e.v.dot ∨ ∃ V1, growsV s.V V1 ∧ ¬ hasV V1 e.v.dot ∧ ¬ Ent.can V1 e.v.dot e.D) ∧
      ((K.length : Int) ≤ hold → (∀ k, (∃ x ∈ s.W, key x = k) → hasV s'.V k.1 ∨ ∃ x ∈ s'.W, key x = k) ∧ (hasV s'.V e.v.dot ∨ ∃ x ∈ s'.W, key x = key e)) := by
  obtain ⟨hp, hcan⟩ := ho
  rcases h with ⟨h, _⟩ | ⟨_, hhad, rfl, rfl⟩ | ⟨_, hnot, hc, rfl, rfl⟩ | ⟨_, hnot, hc, hr, rfl, rfl⟩ | ⟨_, hnot, hc, hr, f, hf, rfl, rfl⟩
  · exact absurd rfl h
  · rcases hhad with hh | hh
    · exact ⟨⟨hp, hcan⟩, growsV.refl _, List.prefix_refl _, .inl hh, fun _ => ⟨fun k hk => .inr hk, .inl hh⟩⟩
    · obtain ⟨x, hx, hxd⟩ := hasDot_true hh
      have hk : key x = key e := same_key hu (hp.w_in x hx) hek hxd
      refine ⟨⟨hp, hcan⟩, growsV.refl _, List.prefix_refl _, .inr ⟨s'.V, growsV.refl _, ?_, ?_⟩, fun _ => ⟨fun k hk => .inr hk, .inr ⟨x, hx, hk⟩⟩⟩
      · rw [← hxd]; exact hp.w_had x hx
      · have := hcan x hx
        have e2 : x.D = e.D := congrArg Prod.snd hk
        rw [hxd, e2] at this
        exact this
  · have hd := hasDot_false (fun h => hnot (.inr h))
    have h1 := hp.deliver hK (List.Sublist.refl s.W) hek hkind hd hc
    obtain ⟨h2, h3, h4, h5, h6⟩ := drain_ok hK s.W.length ⟨addV s.V e.v.dot, s.W, s.O ++ [e]⟩ rfl h1
    have hdk : e.v.dot.Ok := hK _ hek
    have hhas := h5.has ((has_add (V := s.V) hdk hdk hc.1).2 (.inr rfl))
    refine ⟨⟨h2, h3⟩, (growsV.add hdk hc.1).trans h5, (List.prefix_append _ _).trans h6, .inl hhas, fun _ => ⟨?_, .inl hhas⟩⟩
    rintro k ⟨x, hx, rfl⟩
    rcases h4 x hx with h | h
    · exact .inr ⟨x, h, rfl⟩
    · exact .inl h
  · have hd := hasDot_false (fun h => hnot (.inr h))
    have h1 := hp.wait hek hkind (fun h => hnot (.inl h)) hd (List.Sublist.refl _)
    refine ⟨⟨h1, fun x hx => ?_⟩, growsV.refl _, List.prefix_refl _, .inr ⟨s.V, growsV.refl _, fun h => hnot (.inl h), hc⟩, fun _ => ⟨?_, .inr ⟨e, by simp, rfl⟩⟩⟩
    · rcases List.mem_append.1 hx with h | h
      · exact hcan x h
      · rw [List.mem_singleton.1 h]; exact hc
    · rintro k ⟨x, hx, rfl⟩
      exact .inr ⟨x, List.mem_append.2 (.inl hx), rfl⟩
  · have hd := hasDot_false (fun h => hnot (.inr h))
    have h1 := hp.wait hek hkind (fun h => hnot (.inl h)) hd (List.eraseIdx_sublist (s.W ++ [e]) (grI (s.W ++ [e]) (s.W.length + 1)))
    refine ⟨⟨h1, fun x hx => ?_⟩, growsV.refl _, List.prefix_refl _, .inr ⟨s.V, growsV.refl _, fun h => hnot (.inl h), hc⟩, fun hr2 => ?_⟩
    · rcases List.mem_append.1 ((List.eraseIdx_sublist _ _).subset hx) with h | h
      · exact hcan x h
      · rw [List.mem_singleton.1 h]; exact hc
    · exfalso
      have h2 := hp.wait hek hkind (fun h => hnot (.inl h)) hd (List.Sublist.refl (s.W ++ [e]))
      have := nodup_le (M := K.map (·.1)) h2.w_nodup (fun d hdm => by
        obtain ⟨x, hx, rfl⟩ := List.mem_map.1 hdm
        exact List.mem_map.2 ⟨key x, h2.w_in x hx, rfl⟩)
      simp at this
      omega
theorem all_done (hu : (K.map (·.1)).Nodup) (ho : QOk K s) (hall : ∀ k ∈ K, hasV s.V k.1) : s.W = [] ∧ s.O.length = K.length ∧ sumV s.V = K.length := by
  have hw : s.W = [] := by
    cases hW : s.W with
    | nil => rfl
    | cons e r =>
      have he : e ∈ s.W := by rw [hW]; simp
      exact absurd (hall _ (ho.1.w_in e he)) (ho.1.w_had e he)
  have h1 := nodup_le (M := K.map (·.1)) ho.1.o_nodup (fun d hd => by
    obtain ⟨x, hx, rfl⟩ := List.mem_map.1 hd
    exact List.mem_map.2 ⟨key x, ho.1.o_in x hx, rfl⟩)
  have h2 := nodup_le (M := s.O.map dotE') hu (fun d hd => by
    obtain ⟨k, hk, rfl⟩ := List.mem_map.1 hd
    exact ho.1.has_o k hk (hall k hk))
  simp at h1 h2
  refine ⟨hw, by omega, ?_⟩
  rw [ho.1.sum]
  omega
end
/-- how many operations of a site -/
def cnt : List Key → Nat → Int
  | [], _ => 0
  | k :: r, u => (if k.1.site = (u : Int) then 1 else 0) + cnt r u
theorem cnt_snoc (k : Key) (u : Nat) : ∀ K : List Key, cnt (K ++ [k]) u = cnt K u + (if k.1.site = (u : Int) then 1 else 0)
  | [] => by simp [cnt]
  | x :: r => by
    show (if x.1.site = (u : Int) then 1 else 0) + cnt (r ++ [k]) u = (if x.1.site = (u : Int) then 1 else 0) + cnt r u + _
    rw [cnt_snoc k u r]
    omega
theorem cnt_bd (u : Nat) : ∀ K : List Key, 0 ≤ cnt K u ∧ cnt K u ≤ K.length
  | [] => by simp [cnt]
  | x :: r => by
    have := cnt_bd u r
    show 0 ≤ (if x.1.site = (u : Int) then 1 else 0) + cnt r u ∧ (if x.1.site = (u : Int) then 1 else 0) + cnt r u ≤ ((x :: r).length : Int)
    rw [List.length_cons]
    split <;> omega
theorem cnt_take {K : List Key} {i : Nat} {k : Key} (h : K[i]? = some k) (u : Nat) : cnt (K.take (i + 1)) u = cnt (K.take i) u + (if k.1.site = (u : Int) then 1 else 0) := by
  rw [List.take_add_one, h]
  exact cnt_snoc k u _
/-- each knows no more than what is ahead of it -/
def Cl (K : List Key) : Prop := ∀ (i : Nat) (k : Key), K[i]? = some k → k.1.Ok ∧ k.1.seq = cnt (K.take i) k.1.site.toNat + 1 ∧ ∀ u, says k.2 u ≤ cnt (K.take i) u
theorem Cl.nil : Cl [] := fun i k h => by simp at h
theorem Cl.snoc {K : List Key} (h : Cl K) {k : Key} (h1 : k.1.Ok) (h2 : k.1.seq = cnt K k.1.site.toNat + 1) (h3 : ∀ u, says k.2 u ≤ cnt K u) : Cl (K ++ [k]) := fun i x hx => by
  by_cases hi : i < K.length
  · rw [List.getElem?_append_left hi] at hx
    rw [List.take_append_of_le_length (by omega)]
    exact h i x hx
  · rw [List.getElem?_append_right (by omega)] at hx
    have hi2 : i - K.length = 0 := by
      by_cases hz : i - K.length = 0
      · exact hz
      · rw [List.getElem?_eq_none (by simp; omega)] at hx; cases hx
    rw [hi2] at hx
    have hx : k = x := by simpa using hx
    subst hx
    rw [show i = K.length by omega, List.take_append_of_le_length (Nat.le_refl _), List.take_length]
    exact ⟨h1, h2, h3⟩
theorem Cl.ok {K : List Key} (h : Cl K) : ∀ k ∈ K, k.1.Ok := fun k hk => by
  obtain ⟨i, hi⟩ := List.getElem?_of_mem hk
  exact (h i k hi).1
theorem cnt_mono {K : List Key} (u : Nat) {i : Nat} : ∀ j, i ≤ j → cnt (K.take i) u ≤ cnt (K.take j) u
  | 0, h => by rw [show i = 0 by omega]; exact Int.le_refl _
  | j + 1, h => by
    by_cases hj : i = j + 1
    · subst hj; exact Int.le_refl _
    · have ih := cnt_mono (K := K) (i := i) u j (by omega)
      cases hk : K[j]? with
      | none =>
        have : K.length ≤ j := List.getElem?_eq_none_iff.1 hk
        rw [List.take_of_length_le (show K.length ≤ j + 1 by omega)]
        rw [List.take_of_length_le this] at ih
        exact ih
      | some k =>
        rw [cnt_take hk]
        split <;> omega
theorem Cl.uniq {K : List Key} (h : Cl K) : (K.map (·.1)).Nodup := by
  rw [List.Nodup, List.pairwise_iff_getElem]
  intro i j hi hj hij he
  have hi' : i < K.length := by simpa using hi
  have hj' : j < K.length := by simpa using hj
  obtain ⟨a1, a2, _⟩ := h i K[i] (List.getElem?_eq_getElem hi')
  obtain ⟨b1, b2, _⟩ := h j K[j] (List.getElem?_eq_getElem hj')
  have he : K[i].1 = K[j].1 := by simpa using he
  rw [← he] at b2
  have hm := cnt_mono (K := K) K[i].1.site.toNat j (show i + 1 ≤ j by omega)
  rw [cnt_take (List.getElem?_eq_getElem hi')] at hm
  unfold Dot.Ok at a1
  rw [if_pos (by omega)] at hm
  omega
theorem Cl.low {K : List Key} (h : Cl K) {V : List Dot} {n : Nat} : n ≤ K.length → (∀ i k, i < n → K[i]? = some k → hasV V k.1) → ∀ u, cnt (K.take n) u ≤ says V u := by
  induction n with
  | zero => intro _ _ u; exact (says_bd V u).1
  | succ n ih =>
    intro hn hh u
    have ih := ih (by omega) (fun i k hi hk => hh i k (by omega) hk) u
    have hk : K[n]? = some K[n] := List.getElem?_eq_getElem (by omega)
    rw [cnt_take hk]
    split
    · rename_i hs
      obtain ⟨h1, h2, _⟩ := h n _ hk
      have h3 := (hh n _ (by omega) hk).2
      unfold Dot.Ok at h1
      unfold getV at h3
      rw [if_pos (by unfold isSite; omega)] at h3
      have : K[n].1.site.toNat = u := by omega
      rw [this] at h2 h3
      omega
    · omega
/-- the first one that is not delivered can be -/
theorem Cl.next {K : List Key} (h : Cl K) (V : List Dot) : (∀ k ∈ K, hasV V k.1) ∨ ∃ k ∈ K, ¬ hasV V k.1 ∧ ∀ V', growsV V V' → ¬ hasV V' k.1 → Ent.can V' k.1 k.2 := by
  have key : ∀ n, n ≤ K.length → (∀ i k, i < n → K[i]? = some k → hasV V k.1) ∨ ∃ k ∈ K, ¬ hasV V k.1 ∧ ∀ V', growsV V V' → ¬ hasV V' k.1 → Ent.can V' k.1 k.2 := by
    intro n
    induction n with
    | zero => intro _; exact .inl fun i k hi => by omega
    | succ n ih =>
      intro hn
      rcases ih (by omega) with ih | ih
      · have hk : K[n]? = some K[n] := List.getElem?_eq_getElem (by omega)
        by_cases hh : hasV V K[n].1
        · refine .inl fun i k hi hik => ?_
          by_cases hin : i = n
          · subst hin
            rw [hk] at hik
            injection hik with hik
            exact hik ▸ hh
          · exact ih i k (by omega) hik
        · refine .inr ⟨K[n], List.getElem_mem (by omega), hh, fun V' hg hn' => ?_⟩
          obtain ⟨h1, h2, h3⟩ := h n _ hk
          have hl := h.low (n := n) (by omega) ih
          have h1' := h1
          unfold Dot.Ok at h1'
          refine ⟨?_, fun u hu => Int.le_trans (h3 u) (Int.le_trans (hl u) (hg u))⟩
          have h4 := hl K[n].1.site.toNat
          have h5 := hg K[n].1.site.toNat
          unfold hasV getV at hn'
          unfold getV
          rw [if_pos (by unfold isSite; omega)] at hn' ⊢
          omega
      · exact .inr ih
  rcases key K.length (Nat.le_refl _) with h1 | h1
  · refine .inl fun k hk => ?_
    obtain ⟨i, hi⟩ := List.getElem?_of_mem hk
    exact h1 i k (List.getElem?_eq_some_iff.1 hi).1 hi
  · exact .inr h1
end Go.Proofs.YtaaeomapbigfgaaGreat
