/- Deleted, settled, forgotten, loaded again: plainly. Load, what its rounds keep. tree.Load, walked. How long a row is, by the bulk of its reading. -/
import Derived.Test.YtlafodnaifghcaaK37
import Derived.Test.YtlafodnaifghcaaK34
import Derived.Test.YtlafodnaifghcaaK35
import Derived.Test.YtlafodnaifghcaaK19
import Derived.Test.YtlafodnaifghcaaK23
import Derived.Test.YtlafodnaifghcaaK36
import Derived.Test.YtlafodnaifghcaaK20
import Derived.Test.YtlafodnaifghcaaRows
namespace Go.Proofs.Ytlafodnaifghcaa.Tr
open Go.RowKit Go.Proofs.Ytlafodnaifghcaa.St Go.Proofs.Ytlafodnaifghcaa.Gl Go.Proofs.Ytlafodnaifghcaa
theorem turnF_id (rs : List Run) (fr tz : Int) (n : Nd) : (turnF rs fr tz n).id = n.id ∧ (turnF rs fr tz n).ref = n.ref ∧ (turnF rs fr tz n).rune = n.rune := by
  unfold turnF
  split <;> exact ⟨rfl, rfl, rfl⟩
theorem turnB_again {rs : List Run} {fr tz : Int} (h : fr ≠ tz) (n : Nd) : turnB rs fr (turnF rs fr tz n) = false := by
  unfold turnF
  cases hb : turnB rs fr n
  · rw [if_neg (by decide)]; exact hb
  · rw [if_pos rfl]
    unfold turnB
    dsimp only
    rw [decide_eq_false (fun e => h e.symm), Bool.false_and]
theorem turn_again {rs : List Run} {fr tz : Int} (h : fr ≠ tz) (L : List Nd) : turnN rs fr (L.map (turnF rs fr tz)) = 0 ∧ (L.map (turnF rs fr tz)).map (turnF rs fr tz) = L.map (turnF rs fr tz) := by
  have hb : ∀ n ∈ L.map (turnF rs fr tz), turnB rs fr n = false := fun n hn => by
    obtain ⟨m, _, rfl⟩ := List.mem_map.1 hn
    exact turnB_again h m
  refine ⟨?_, ?_⟩
  · unfold turnN
    rw [List.filter_eq_nil_iff.2 fun n hn => by rw [hb n hn]; decide]
    rfl
  · have e : ∀ n ∈ L.map (turnF rs fr tz), turnF rs fr tz n = id n := fun n hn => by
      unfold turnF
      rw [hb n hn, if_neg (by decide)]
      rfl
    rw [List.map_congr_left e, List.map_id]
theorem del_count {G : List Run} : ∀ {L : List Nd}, (∀ n ∈ L, n.st = 1) → turnN G 1 L = (L.length : Int) - ((shL (L.map (turnF G 1 2))).length : Int)
  | [], _ => rfl
  | n :: L, h => by
    have ih := del_count (G := G) (L := L) fun m hm => h m (List.mem_cons_of_mem _ hm)
    unfold turnN at ih ⊢
    have hn := h n List.mem_cons_self
    rw [List.map_cons]
    cases hb : turnB G 1 n
    · have e1 : turnF G 1 2 n = n := by unfold turnF; rw [hb, if_neg (by decide)]
      have e2 : shL (turnF G 1 2 n :: L.map (turnF G 1 2)) = n :: shL (L.map (turnF G 1 2)) := by rw [e1]; exact List.filter_cons_of_pos (by simpa using hn)
      rw [e2, List.filter_cons_of_neg (by rw [hb]; decide), List.length_cons, List.length_cons]
      omega
    · have e1 : (turnF G 1 2 n).st = 2 := by unfold turnF; rw [hb, if_pos rfl]
      have e2 : shL (turnF G 1 2 n :: L.map (turnF G 1 2)) = shL (L.map (turnF G 1 2)) := List.filter_cons_of_neg (by rw [e1]; decide)
      rw [e2, List.filter_cons_of_pos (by rw [hb]), List.length_cons, List.length_cons]
      omega
theorem settle_count {G S : List Run} : ∀ {L : List Nd}, (∀ n ∈ L, n.st = 1) → turnN S 2 (L.map (turnF G 1 2)) ≤ turnN G 1 L
  | [], _ => by simp [turnN]
  | n :: L, h => by
    have ih := settle_count (G := G) (S := S) (L := L) fun m hm => h m (List.mem_cons_of_mem _ hm)
    unfold turnN at ih ⊢
    have hn := h n List.mem_cons_self
    rw [List.map_cons]
    cases hb : turnB G 1 n
    · have e1 : turnF G 1 2 n = n := by unfold turnF; rw [hb, if_neg (by decide)]
      have e2 : turnB S 2 n = false := by unfold turnB; rw [hn]; rfl
      rw [e1, List.filter_cons_of_neg (by rw [e2]; decide), List.filter_cons_of_neg (by rw [hb]; decide)]
      exact ih
    · rw [List.filter_cons_of_pos (p := turnB G 1) (by rw [hb]), List.length_cons]
      have h9 := List.length_filter_le (turnB S 2) [turnF G 1 2 n]
      have h8 : ((turnF G 1 2 n :: L.map (turnF G 1 2)).filter (turnB S 2)).length = ([turnF G 1 2 n].filter (turnB S 2)).length + ((L.map (turnF G 1 2)).filter (turnB S 2)).length := by
        rw [← List.length_append, ← List.filter_append]; rfl
      rw [h8]
      simp only [List.length_cons, List.length_nil] at h9
      omega
theorem settle_shown (S : List Run) : ∀ L : List Nd, shL (L.map (turnF S 2 3)) = shL L
  | [] => rfl
  | n :: L => by
    have ih := settle_shown S L
    rw [List.map_cons]
    cases hb : turnB S 2 n
    · have e1 : turnF S 2 3 n = n := by unfold turnF; rw [hb, if_neg (by decide)]
      rw [e1]
      unfold shL at ih ⊢
      rw [List.filter_cons, List.filter_cons, ih]
    · have e1 : (turnF S 2 3 n).st = 3 := by unfold turnF; rw [hb, if_pos rfl]
      have e2 : n.st = 2 := by
        unfold turnB at hb
        rw [Bool.and_eq_true, decide_eq_true_eq] at hb
        exact hb.1
      unfold shL at ih ⊢
      rw [List.filter_cons_of_neg (by rw [e1]; decide), List.filter_cons_of_neg (by rw [e2]; decide), ih]
theorem coll_again : ∀ L : List Nd, collR (collR L) = collR L
  | [] => rfl
  | x :: r => by
    have ih := coll_again r
    by_cases h : x.st = 3 ∧ (∀ m, (collR r).head? = some m → m.ref ≠ x.id)
    · have e : collR (x :: r) = collR r := if_pos h
      rw [e, ih]
    · have e : collR (x :: r) = x :: collR r := if_neg h
      rw [e]
      show (if x.st = 3 ∧ (∀ m, (collR (collR r)).head? = some m → m.ref ≠ x.id) then _ else x :: collR (collR r)) = _
      rw [ih, if_neg h]
theorem coll_shown : ∀ L : List Nd, shL (collR L) = shL L
  | [] => rfl
  | x :: r => by
    have ih := coll_shown r
    by_cases h : x.st = 3 ∧ (∀ m, (collR r).head? = some m → m.ref ≠ x.id)
    · have e : collR (x :: r) = collR r := if_pos h
      rw [e, ih]
      exact (List.filter_cons_of_neg (by rw [h.1]; decide)).symm
    · have e : collR (x :: r) = x :: collR r := if_neg h
      rw [e]
      unfold shL at ih ⊢
      rw [List.filter_cons, List.filter_cons, ih]
/-- what is settled and left has something behind it -/
theorem coll_behind : ∀ {L : List Nd} {k : Nat} {x : Nd}, (collR L)[k]? = some x → x.st = 3 → ∃ m, (collR L)[k + 1]? = some m ∧ m.ref = x.id
  | [], k, x, h, _ => by simp [collR] at h
  | y :: r, k, x, h, hs => by
    by_cases hc : y.st = 3 ∧ (∀ m, (collR r).head? = some m → m.ref ≠ y.id)
    · have e : collR (y :: r) = collR r := if_pos hc
      rw [e] at h ⊢
      exact coll_behind h hs
    · have e : collR (y :: r) = y :: collR r := if_neg hc
      rw [e] at h ⊢
      cases k with
      | zero =>
        simp at h
        subst h
        rw [Nat.zero_add, List.getElem?_cons_succ, ← List.head?_eq_getElem?]
        refine Decidable.byContradiction fun hn => hc ⟨hs, fun m hm he => hn ⟨m, hm, he⟩⟩
      | succ k =>
        rw [List.getElem?_cons_succ] at h ⊢
        exact coll_behind h hs
theorem collN_zero (L : List Nd) : collN (collR L) = 0 := by
  unfold collN
  rw [coll_again]
  omega
/-- two lists gone through side by side: they go on together -/
theorem side_step {A B : List Nd} {i k : Nat} {x y : Nd} (hnd : (ids B).Nodup) (h : (A.drop k).Sublist (B.drop i)) (hx : B[i]? = some x) (hy : A[k]? = some y) :
    (x.id ≠ y.id → (A.drop k).Sublist (B.drop (i + 1))) ∧ (x.id = y.id → x = y ∧ (A.drop (k + 1)).Sublist (B.drop (i + 1))) := by
  have hA : A.drop k = y :: A.drop (k + 1) := by
    rw [List.drop_eq_getElem_cons (List.getElem?_eq_some_iff.1 hy).1, (List.getElem?_eq_some_iff.1 hy).2]
  have hB : B.drop i = x :: B.drop (i + 1) := by
    rw [List.drop_eq_getElem_cons (List.getElem?_eq_some_iff.1 hx).1, (List.getElem?_eq_some_iff.1 hx).2]
  rw [hA, hB] at h
  constructor
  · intro hne
    rw [hA]
    cases h with
    | cons _ h => exact h
    | cons_cons _ h => exact absurd rfl hne
  · intro he
    cases h with
    | cons _ h =>
      exfalso
      have hm : y ∈ B.drop (i + 1) := h.subset List.mem_cons_self
      have h9 : (ids (B.drop i)).Nodup := (List.Sublist.map _ (List.drop_sublist i B)).nodup hnd
      rw [hB] at h9
      exact (List.nodup_cons.1 (show (x.id :: ids (B.drop (i + 1))).Nodup from h9)).1 (by rw [he]; exact List.mem_map.2 ⟨y, hm, rfl⟩)
    | cons_cons _ h => exact ⟨rfl, h⟩
end Go.Proofs.Ytlafodnaifghcaa.Tr
namespace Go.Proofs.Ytlafodnaifghcaa.Tr
open Go.RowKit Go.Proofs.Ytlafodnaifghcaa.St
theorem offs_step {xs : List Nd} {n : Nat} {x : Nd} (hx : xs[n]? = some x) (h : offsC [] xs = offsC (ids (xs.take n)) (xs.drop n)) :
    (offC (ids (xs.take n)) x ≠ 0 → offsC [] xs = offC (ids (xs.take n)) x) ∧ (offC (ids (xs.take n)) x = 0 → offsC [] xs = offsC (ids (xs.take (n + 1))) (xs.drop (n + 1))) := by
  have hn := (List.getElem?_eq_some_iff.1 hx).1
  have e1 : xs.drop n = x :: xs.drop (n + 1) := by rw [List.drop_eq_getElem_cons hn, (List.getElem?_eq_some_iff.1 hx).2]
  have e2 : ids (xs.take (n + 1)) = ids (xs.take n) ++ [x.id] := by rw [List.take_add_one, hx]; simp [ids]
  rw [h, e1, e2]
  constructor
  · intro hne
    show (if offC _ x ≠ 0 then offC _ x else _) = _
    rw [if_pos hne]
  · intro hz
    show (if offC _ x ≠ 0 then offC _ x else _) = _
    rw [if_neg (fun h => h hz)]
/-- between two rounds of Load -/
structure LoadJ (w : World) (g : Nat) (xs : List Nd) (n : Nat) (W : World) : Prop where
  tree : ∃ A S mp, TAt W g (puts [] (xs.take n)) A S mp ∧ ∀ b, foot g (puts [] (xs.take n)) A S mp b → w.heap.size ≤ b
  doc : Doc (puts [] (xs.take n))
  mem : ∀ y, y ∈ ids (puts [] (xs.take n)) ↔ y ∈ ids (xs.take n)
  len : (puts [] (xs.take n)).length = n
  kept : Kept (fun _ => False) w W
  offs : offsC [] xs = offsC (ids (xs.take n)) (xs.drop n)
  inr : n ≤ xs.length
/-- what Load leaves -/
def LoadPost (w : World) (xs : List Nd) (e : Ending) (w' : World) : Prop :=
  Kept (fun _ => False) w w' ∧ ((loadC xs ≠ 0 ∧ e = .returned (.tuple #[.pointer none, .int .i64 (loadC xs)])) ∨
    (loadC xs = 0 ∧ ∃ g A S mp, e = .returned (.tuple #[.pointer (some ⟨g, 0, none⟩), .int .i64 0]) ∧ TAt w' g xs A S mp ∧ Doc xs ∧ ∀ b, foot g xs A S mp b → w.heap.size ≤ b))
variable {w W : World} {g n : Nat} {xs : List Nd}
theorem LoadJ.start : LoadJ w w.heap.size xs 0 (w.alloc (.cells #[.slice none 0 0, .map none] 88)) where
  tree := ⟨_, _, _, by simpa [puts] using new_at w, fun b hb => by
    rcases hb with h | h | ⟨y, hy, _⟩ | ⟨r, _, h⟩
    · omega
    · cases h
    · simp [puts, ids] at hy
    · cases h⟩
  doc := by simpa [puts] using Doc.nil
  mem := fun y => by simp [puts]
  len := by simp [puts]
  kept := (Kept.refl _ _).alloc _
  offs := by simp
  inr := Nat.zero_le _
theorem LoadJ.still {W' : World} (h : LoadJ w g xs n W) (hk : Kept (fun _ => False) W W') : LoadJ w g xs n W' := by
  obtain ⟨A, S, mp, ht, hf⟩ := h.tree
  exact { tree := ⟨A, S, mp, ht.still hk, hf⟩, doc := h.doc, mem := h.mem, len := h.len, kept := h.kept.trans hk fun _ _ h => h, offs := h.offs, inr := h.inr }
theorem LoadJ.no {w' : World} (h : LoadJ w g xs n W) (hk : Kept (fun _ => False) W w') {x : Nd} (hx : xs[n]? = some x) {r : Int} (hr : offC (ids (xs.take n)) x = r) (hr0 : r ≠ 0) : LoadPost w xs (.returned (.tuple #[.pointer none, .int .i64 r])) w' := by
  have e := (offs_step hx h.offs).1 (by rw [hr]; exact hr0)
  rw [hr] at e
  have e2 : loadC xs = r := by
    unfold loadC
    rw [if_pos (by rw [e]; exact hr0), e]
  exact ⟨h.kept.trans hk fun _ _ h => h, .inl ⟨by rw [e2]; exact hr0, by rw [e2]⟩⟩
theorem LoadJ.call (h : LoadJ w g xs n W) {x : Nd} (hx : xs[n]? = some x) (hz : offC (ids (xs.take n)) x = 0) (hlen : xs.length ≤ 900000) :
    Calls Try.prog 38 #[.pointer (some ⟨g, 0, none⟩), .agg (ndC x).toArray] W fun e W' => e = .returned (.tuple #[]) ∧ LoadJ w g xs (n + 1) W' := by
  obtain ⟨A, S, mp, ht, hf⟩ := h.tree
  obtain ⟨k1, k2, k3, k4, _⟩ := off_ok hz
  have hn := (List.getElem?_eq_some_iff.1 hx).1
  have e1 : xs.take (n + 1) = xs.take n ++ [x] := by rw [List.take_add_one, hx]; rfl
  have hxz : x.id ≠ ID.zero := fun e => by have := congrArg ID.t e; have h3 : x.id.t = 0 := this; have := k1.1; omega
  have href : Ref (puts [] (xs.take n)) x.ref := k4.imp_right fun h1 => (h.mem _).2 h1
  have hnew : x.id ∉ ids (puts [] (xs.take n)) := fun h1 => k3 ((h.mem _).1 h1)
  refine (put_any ht h.doc (by rw [h.len]; omega) x hxz href k2 hnew).mono ?_
  rintro e W' ⟨he, A4, S4, mp4, ht4, hf4, hk4⟩
  refine ⟨he, ⟨A4, S4, mp4, ?_, ?_⟩, ?_, ?_, ?_, ?_, (offs_step hx h.offs).2 hz, by omega⟩
  · rw [e1, puts_snoc]; exact ht4
  · rw [e1, puts_snoc]
    intro b hb
    rcases hf4 b hb with h1 | h1
    · exact hf b h1
    · exact Nat.le_trans h.kept.size h1
  · rw [e1, puts_snoc]; exact (h.doc.put href k2 hnew).1
  · intro y
    rw [e1, puts_snoc, put_ids, h.mem]
    simp [ids, or_comm]
  · rw [e1, puts_snoc, put_length, h.len]
  · exact h.kept.trans hk4 fun b hb h1 => by have := hf b h1; omega
/-- at the end -/
theorem LoadJ.done {w' : World} (h : LoadJ w g xs xs.length W) (hk : Kept (fun _ => False) W w') : (puts [] xs = xs → LoadPost w xs (.returned (.tuple #[.pointer (some ⟨g, 0, none⟩), .int .i64 0])) w') ∧ (puts [] xs ≠ xs → LoadPost w xs (.returned (.tuple #[.pointer none, .int .i64 9])) w') := by
  have h0 : offsC [] xs = 0 := by rw [h.offs, List.drop_length]; rfl
  have hk2 := h.kept.trans hk fun _ _ h => h
  constructor
  · intro e
    have e2 : loadC xs = 0 := by unfold loadC; rw [if_neg (fun h => h h0), if_pos e]
    obtain ⟨A, S, mp, ht, hf⟩ := h.tree
    have hd := h.doc
    rw [List.take_length, e] at ht hf hd
    exact ⟨hk2, .inr ⟨e2, g, A, S, mp, rfl, ht.still hk, hd, hf⟩⟩
  · intro e
    have e2 : loadC xs = 9 := by unfold loadC; rw [if_neg (fun h => h h0), if_neg e]
    exact ⟨hk2, .inl ⟨by rw [e2]; decide, by rw [e2]⟩⟩
end Go.Proofs.Ytlafodnaifghcaa.Tr
namespace Go.Proofs.Ytlafodnaifghcaa.Tr
open Go.RowKit Go.Sort Go.Proofs.Ytlafodnaifghcaa.St
theorem ClipAt.sl {α : Type} {E : Enc α} {t : TypeId} {base : Nat} {w : World} {v : Value} {D : List α} (h : ClipAt E t base w v D) : SlAt E w v D := by
  rcases h with ⟨rfl, rfl⟩ | ⟨b, cap, rfl, _, h⟩
  · exact .inl ⟨rfl, rfl⟩
  · rcases h.slAt with ⟨h1, _⟩ | ⟨y, d, h1, h2, h3, h4, h5⟩
    · cases h1
    · injection h1 with e1 e2 e3
      injection e1 with e1
      subst e1
      subst e3
      exact .inr ⟨⟨b, 0, none⟩, D.length, rfl, Nat.le_refl _, Nat.le_trans h2 h3, h4, h5⟩
set_option maxRecDepth 100000 in
set_option maxHeartbeats 8000000 in
theorem load_any {w : World} {v : Value} {xs : List Nd} (hv : SlAt nodeE w v xs) (hlen : xs.length ≤ 900000) :
    Calls Try.prog 30 #[v] w (LoadPost w xs) := by
  obtain ⟨va, vc, rfl, _, _⟩ := hv.sl
  have ST := Lib.hid (LoadJ.start (w := w) (xs := xs))
  have HV := Lib.hid hv
  have HN := Lib.hid hlen
  clear hv
  go_enter Try.func30, Try.ntmps30
  go_wp2_with (go_at_call 23; refine (new_any _).mono ?_; rintro e w' ⟨rfl, rfl⟩)
  obtain ⟨g, hg⟩ : ∃ g, w.heap.size = g := ⟨_, rfl⟩
  rw [hg] at ST ⊢
  have HG := Lib.hid hg
  clear hg
  go_loopw [11] (fun iv wr => ∃ n : Nat, iv = .int .i64 n ∧ LoadJ w g xs n wr) (fun iv _ => xs.length - (intOf iv).toNat)
  case atStart => exact ⟨0, rfl, ST.out⟩
  case round =>
    obtain ⟨n, rfl, hJ⟩ := hrel
    by_cases hlt : n < xs.length
    case neg =>
      have hn : n = xs.length := by have := hJ.inr; omega
      subst hn
      obtain ⟨A, S, mp, ht, hf⟩ := hJ.tree
      have hd := hJ.doc
      rw [List.take_length] at ht hd
      have hl9 : (puts [] xs).length ≤ 900000 := by have h9 := hJ.len; rw [List.take_length] at h9; rw [h9]; exact hlen
      have NA := Lib.hid (nodes_any ht hd hl9)
      have HJ := Lib.hid hJ
      have L9 := Lib.hid hl9
      clear hJ ht hf hd hl9 ST
      by_cases hE : puts [] xs = xs
      all_goals
        have EE := Lib.hid hE
        clear hE
        go_wp2_with (first | (go_at_call 20; refine NA.out.mono ?_; rintro e w2 ⟨⟨v2, rfl, hcl⟩, hk⟩; have HEQ := Lib.hid (nodes_eq hcl.sl (HV.out.kept (HJ.out.kept.trans hk fun _ _ h => h)) (by have := L9.out; omega)); (first | rw [decide_eq_true EE.out] at HEQ | rw [decide_eq_false EE.out] at HEQ); have HK := Lib.hid hk; clear hcl hk) | (go_at_call 54; refine HEQ.out.mono ?_; rintro e w3 ⟨rfl, q, rfl⟩))
        refine bodyPost_ret (results_tmp2 rfl _ _ _) rfl ?_
      · exact (HJ.out.done ((HK.out).drewN _)).1 EE.out
      · exact (HJ.out.done ((HK.out).drewN _)).2 EE.out
    case pos =>
      obtain ⟨x, hx⟩ : ∃ x, xs[n]? = some x := ⟨_, List.getElem?_eq_getElem hlt⟩
      obtain ⟨b, o, c', e1, _, h1⟩ := SlAt.node (HV.out.kept hJ.kept) (by omega)
      cases e1
      obtain ⟨k1, k2, k3, k4, k5, k6⟩ := h1 n x hx
      have hn0 : (0 : Int) ≤ n := by omega
      have hnl : (n : Int) < xs.length := by omega
      have hB := Blk.new wr 59 (ndC x).toArray
      have hg0 : Grew wr (wr.alloc (.cells (ndC x).toArray 59)) := (Grew.refl wr).alloc _
      have ndc : (ndC x).toArray = #[.int .i64 x.id.t, .int .i64 x.id.s, .int .i64 x.ref.t, .int .i64 x.ref.s, .int .i32 x.rune, .int .i64 x.st] := rfl
      rw [ndc] at hB hg0
      obtain ⟨⟨it, is⟩, ⟨rt, rs⟩, ru, st⟩ := x
      simp only at k1 k2 k3 k4 k5 k6 hB hg0 ndc
      have B0 := Lib.hid hB
      have G0 := Lib.hid hg0
      have HJ := Lib.hid hJ
      have HX := Lib.hid hx
      have ND := Lib.hid ndc
      have M1 : Hid (∀ w, Calls Try.prog 34 #[.agg #[.int .i64 it, .int .i64 is]] w fun e w' => e = .returned (.bool (isB ⟨it, is⟩)) ∧ Grew w w') := Lib.hid fun w => may_any ⟨it, is⟩ w
      have M2 : Hid (∀ w, Calls Try.prog 34 #[.agg #[.int .i64 rt, .int .i64 rs]] w fun e w' => e = .returned (.bool (isB ⟨rt, rs⟩)) ∧ Grew w w') := Lib.hid fun w => may_any ⟨rt, rs⟩ w
      obtain ⟨p1, hp1⟩ : ∃ b, isB ⟨it, is⟩ = b := ⟨_, rfl⟩
      obtain ⟨p2, hp2⟩ : ∃ b, isB ⟨rt, rs⟩ = b := ⟨_, rfl⟩
      rw [hp1] at M1
      rw [hp2] at M2
      obtain ⟨bb, hbb⟩ : ∃ b, (!p1 || (!decide ((⟨rt, rs⟩ : ID) = ID.zero) && !p2)) = b := ⟨_, rfl⟩
      have P1 := Lib.hid hp1
      have P2 := Lib.hid hp2
      have PB := Lib.hid hbb
      have HNO := Lib.hid (fun (w' : World) (hg : Grew wr w') (r : Int) (hr : offC (ids (xs.take n)) ⟨⟨it, is⟩, ⟨rt, rs⟩, ru, st⟩ = r) (hr0 : r ≠ 0) => hJ.no hg.kept hx hr hr0)
      clear hB hg0 hJ hx ndc h1 hp1 hp2 hbb ST
      go_upto_region 5 with fail
      obtain ⟨W0, hW0⟩ : ∃ W0, (wr.alloc (.cells #[.int .i64 it, .int .i64 is, .int .i64 rt, .int .i64 rs, .int .i32 ru, .int .i64 st] 59)) = W0 := ⟨_, rfl⟩
      rw [hW0] at G0 B0
      obtain ⟨z, hz⟩ : ∃ z, wr.heap.size = z := ⟨_, rfl⟩
      rw [hz] at B0
      rw [hW0, hz]
      clear hW0 k1 k2 k3 k4 k5 k6
      have z0 := B0.out.cell' (i := 0) (v := .int .i64 it) rfl
      have z1 := B0.out.cell' (i := 1) (v := .int .i64 is) rfl
      go_cut [15] (fun v wx => v = .bool bb ∧ Grew W0 wx)
      case first =>
        cases p1
        case false =>
          go_wp2_with (go_at_call 34; with_reducible refine (M1.out _).mono ?_; rintro e w1 ⟨rfl, hg1⟩)
          go_meet
          case rel => exact ⟨by rw [← PB.out]; rfl, hg1⟩
        case true =>
          by_cases h0 : rt = 0
          · subst h0
            by_cases h1 : rs = 0
            · subst h1
              go_wp2_with (go_at_call 34; with_reducible refine (M1.out _).mono ?_; rintro e w1 ⟨rfl, hg1⟩; have hb0 := hg1.box B0.out; have y0 : w1.cell? ⟨z, 2, none⟩ = some (.int .i64 0) := hb0.cell' rfl; have y1 : w1.cell? ⟨z, 3, none⟩ = some (.int .i64 0) := hb0.cell' rfl)
              go_meet
              case rel => exact ⟨by rw [← PB.out]; rfl, hg1⟩
            · have PZ := Lib.hid (show (⟨0, rs⟩ : ID) ≠ ID.zero from fun e => h1 (by injection e))
              go_wp2_with (first
                | (go_at_call 34; with_reducible refine (M1.out _).mono ?_; rintro e w1 ⟨rfl, hg1⟩; have hb0 := hg1.box B0.out; have y0 : w1.cell? ⟨z, 2, none⟩ = some (.int .i64 0) := hb0.cell' rfl; have y1 : w1.cell? ⟨z, 3, none⟩ = some (.int .i64 rs) := hb0.cell' rfl)
                | (go_at_call 34; with_reducible refine (M2.out _).mono ?_; rintro e w2 ⟨rfl, hg2⟩))
              go_meet
              case rel => exact ⟨by rw [← PB.out, decide_eq_false PZ.out]; cases p2 <;> rfl, hg1.trans hg2⟩
          · have PZ := Lib.hid (show (⟨rt, rs⟩ : ID) ≠ ID.zero from fun e => h0 (by injection e))
            go_wp2_with (first
              | (go_at_call 34; with_reducible refine (M1.out _).mono ?_; rintro e w1 ⟨rfl, hg1⟩; have hb0 := hg1.box B0.out; have y0 : w1.cell? ⟨z, 2, none⟩ = some (.int .i64 rt) := hb0.cell' rfl; have y1 : w1.cell? ⟨z, 3, none⟩ = some (.int .i64 rs) := hb0.cell' rfl)
              | (go_at_call 34; with_reducible refine (M2.out _).mono ?_; rintro e w2 ⟨rfl, hg2⟩))
            go_meet
            case rel => exact ⟨by rw [← PB.out, decide_eq_false PZ.out]; cases p2 <;> rfl, hg1.trans hg2⟩
      case rest =>
        obtain ⟨rfl, hgc⟩ := hcut
        have GC := Lib.hid hgc
        clear hgc M1 M2 z0 z1
        cases bb
        case true =>
          go_wp2_with fail
          refine bodyPost_ret (results_tmp2 rfl _ _ _) rfl ?_
          exact HNO.out _ (G0.out.trans GC.out) 1 (by
            refine if_pos ?_
            have h1 := PB.out
            rw [← P1.out, ← P2.out] at h1
            simp only [Bool.or_eq_true, Bool.and_eq_true, Bool.not_eq_true', decide_eq_false_iff_not, isB] at h1
            exact h1) (by decide)
        case false =>
        have OK1 : Hid (¬ (¬ (⟨it, is⟩ : ID).Is ∨ ((⟨rt, rs⟩ : ID) ≠ ID.zero ∧ ¬ (⟨rt, rs⟩ : ID).Is))) := Lib.hid (by
          have h1 := PB.out
          rw [← P1.out, ← P2.out] at h1
          simp only [Bool.or_eq_false_iff, Bool.and_eq_false_iff, Bool.not_eq_false', decide_eq_true_eq, isB] at h1
          rintro (h2 | h2)
          · exact h2 h1.1
          · exact h1.2.elim h2.1 h2.2)
        clear PB P1 P2
        obtain ⟨b2, hb2⟩ : ∃ b, (!decide (isRuneP ru) || (decide (st < 1) || decide (3 < st))) = b := ⟨_, rfl⟩
        have PB := Lib.hid hb2
        have IR : Hid (∀ w, Calls Try.prog 52 #[.int .i32 ru] w fun e w' => e = .returned (.bool (decide (isRuneP ru))) ∧ w = w') := Lib.hid (isRune_any ru)
        have hbc := GC.out.box B0.out
        have z4 : wc.cell? ⟨z, 4, none⟩ = some (.int .i32 ru) := hbc.cell' rfl
        have z5 : wc.cell? ⟨z, 5, none⟩ = some (.int .i64 st) := hbc.cell' rfl
        clear hb2 hbc
        go_upto_region 7 with fail
        go_cut [32] (fun v wx => v = .bool b2 ∧ wx = wc)
        case first =>
          obtain ⟨pr, hpr⟩ : ∃ b, decide (isRuneP ru) = b := ⟨_, rfl⟩
          rw [hpr] at IR PB
          clear hpr
          cases pr
          case false =>
            go_wp2_with (go_at_call 52; with_reducible refine (IR.out _).mono ?_; rintro e w1 ⟨rfl, rfl⟩)
            go_meet
            case rel => exact ⟨by rw [← PB.out]; rfl, rfl⟩
          case true =>
            by_cases h1 : st < 1
            · go_wp2_with (go_at_call 52; with_reducible refine (IR.out _).mono ?_; rintro e w1 ⟨rfl, rfl⟩)
              go_meet
              case rel => exact ⟨by rw [← PB.out]; simp [h1], rfl⟩
            · by_cases h2 : 3 < st
              · go_wp2_with (go_at_call 52; with_reducible refine (IR.out _).mono ?_; rintro e w1 ⟨rfl, rfl⟩)
                go_meet
                case rel => exact ⟨by rw [← PB.out]; simp [h2], rfl⟩
              · go_wp2_with (go_at_call 52; with_reducible refine (IR.out _).mono ?_; rintro e w1 ⟨rfl, rfl⟩)
                go_meet
                case rel => exact ⟨by rw [← PB.out]; simp, rfl⟩
        case rest =>
          obtain ⟨rfl, rfl⟩ := hcut
          clear IR z4 z5
          cases b2
          case true =>
            go_wp2_with fail
            refine bodyPost_ret (results_tmp2 rfl _ _ _) rfl ?_
            exact HNO.out _ (G0.out.trans GC.out) 6 (by
              unfold offC
              rw [if_neg OK1.out]
              refine if_pos ?_
              have h1 := PB.out
              simp only [Bool.or_eq_true, Bool.not_eq_true', decide_eq_false_iff_not, decide_eq_true_eq] at h1
              exact h1) (by decide)
          case false =>
          have OK2 : Hid (¬ (¬ isRuneP ru ∨ st < 1 ∨ 3 < st)) := Lib.hid (by
            have h1 := PB.out
            simp only [Bool.or_eq_false_iff, Bool.not_eq_false', decide_eq_true_eq, decide_eq_false_iff_not] at h1
            rintro (h2 | h2 | h2)
            · exact h2 h1.1
            · exact h1.2.1 h2
            · exact h1.2.2 h2)
          clear PB
          have CMP : Hid (∀ w, Calls Try.prog 53 #[.agg #[.int .i64 rt, .int .i64 rs], .agg #[.int .i64 it, .int .i64 is]] w fun e w' => e = .returned (.int .i64 ((⟨rt, rs⟩ : ID).cmp ⟨it, is⟩)) ∧ Grew w w') := Lib.hid (compare_any ⟨rt, rs⟩ ⟨it, is⟩)
          obtain ⟨k, hk⟩ : ∃ k, (⟨rt, rs⟩ : ID).cmp ⟨it, is⟩ = k := ⟨_, rfl⟩
          have hkl : k < 0 ↔ (⟨rt, rs⟩ : ID).lt ⟨it, is⟩ := by rw [← hk]; exact cmp_lt
          rw [hk] at CMP
          have KL := Lib.hid hkl
          have hbc := GC.out.box B0.out
          have z0 := hbc.cell' (i := 0) (v := .int .i64 it) rfl
          have z1 := hbc.cell' (i := 1) (v := .int .i64 is) rfl
          have z2 := hbc.cell' (i := 2) (v := .int .i64 rt) rfl
          have z3 := hbc.cell' (i := 3) (v := .int .i64 rs) rfl
          clear hk hkl hbc
          by_cases q : (0 : Int) ≤ k
          case pos =>
            go_wp2_with (go_at_call 53; with_reducible refine (CMP.out _).mono ?_; rintro e w2 ⟨rfl, hg2⟩)
            refine bodyPost_ret (results_tmp2 rfl _ _ _) rfl ?_
            exact HNO.out _ ((G0.out.trans GC.out).trans hg2) 9 (by
              unfold offC
              rw [if_neg OK1.out, if_neg OK2.out]
              exact if_pos (fun h => by have := KL.out.2 h; omega)) (by decide)
          case neg =>
          have OK3 : Hid ((⟨rt, rs⟩ : ID).lt ⟨it, is⟩) := Lib.hid (KL.out.1 (by omega))
          go_wp2_with (go_at_call 53; with_reducible refine (CMP.out _).mono ?_; rintro e w2 ⟨rfl, hg2⟩)
          have G2 := Lib.hid ((G0.out.trans GC.out).trans hg2)
          have hJ2 := HJ.out.still G2.out.kept
          obtain ⟨A, S, mp, ht, hf⟩ := hJ2.tree
          have hb2 := (GC.out.trans hg2).box B0.out
          have z0 := hb2.cell' (i := 0) (v := .int .i64 it) rfl
          have z1 := hb2.cell' (i := 1) (v := .int .i64 is) rfl
          have y2 : w2.cell? ⟨g, 1, none⟩ = some (.map mp) := ht.top.cell' rfl
          have hlk := (ht.still ((Kept.refl (fun _ => False) w2).drew)).look ⟨it, is⟩
          have HT2 := Lib.hid ht
          have J2 := Lib.hid hJ2
          have B2 := Lib.hid hb2
          simp only at hlk
          clear ht hf hJ2 hb2 hg2 q KL CMP z2 z3
          by_cases hm : (⟨it, is⟩ : ID) ∈ ids (puts [] (xs.take n))
          case pos =>
            rw [if_pos hm] at hlk
            have HM := Lib.hid hm
            clear hm
            go_region
            all_goals go_wp2
            all_goals refine bodyPost_ret (results_tmp2 rfl _ _ _) rfl ?_
            all_goals exact HNO.out _ G2.out.drew 12 (by
              unfold offC
              rw [if_neg OK1.out, if_neg OK2.out, if_neg (fun h => h OK3.out)]
              exact if_pos ((J2.out.mem _).1 HM.out)) (by decide)
          case neg =>
          rw [if_neg hm] at hlk
          have OK4 : Hid ((⟨it, is⟩ : ID) ∉ ids (xs.take n)) := Lib.hid fun h => hm ((J2.out.mem _).2 h)
          clear hm
          go_region
          have hgd : Grew w2 w2.drew := (Grew.refl w2).drew
          obtain ⟨y, hy⟩ : ∃ y, whyE (puts [] (xs.take n)) ⟨it, is⟩ ⟨rt, rs⟩ = y := ⟨_, rfl⟩
          have WH : Hid (Calls Try.prog 36 #[.pointer (some ⟨g, 0, none⟩), .agg #[.int .i64 it, .int .i64 is], .agg #[.int .i64 rt, .int .i64 rs]] w2.drew fun e w'' => e = .returned (.int .i64 y) ∧ Grew w2.drew w'') := Lib.hid (by
            rw [← hy]
            exact why_any (HT2.out.still hgd.kept) ⟨it, is⟩ ⟨rt, rs⟩)
          have hyc : y = offC (ids (xs.take n)) ⟨⟨it, is⟩, ⟨rt, rs⟩, ru, st⟩ := by
            rw [← hy]
            have q1 : whyE (puts [] (xs.take n)) ⟨it, is⟩ ⟨rt, rs⟩ = if (⟨rt, rs⟩ : ID) ≠ ID.zero ∧ (⟨rt, rs⟩ : ID) ∉ ids (puts [] (xs.take n)) then 11 else 0 := by
              unfold whyE
              rw [if_neg (fun h => h OK3.out)]
            have q2 : offC (ids (xs.take n)) ⟨⟨it, is⟩, ⟨rt, rs⟩, ru, st⟩ = if (⟨rt, rs⟩ : ID) ≠ ID.zero ∧ (⟨rt, rs⟩ : ID) ∉ ids (xs.take n) then 11 else 0 := by
              unfold offC
              rw [if_neg OK1.out, if_neg OK2.out]
              refine (if_neg (fun h => h OK3.out)).trans ?_
              exact if_neg OK4.out
            rw [q1, q2]
            by_cases h1 : (⟨rt, rs⟩ : ID) ≠ ID.zero ∧ (⟨rt, rs⟩ : ID) ∉ ids (xs.take n)
            · rw [if_pos h1, if_pos ⟨h1.1, fun h => h1.2 ((J2.out.mem _).1 h)⟩]
            · rw [if_neg h1, if_neg (fun h => h1 ⟨h.1, fun h2 => h.2 ((J2.out.mem _).2 h2)⟩)]
          have YC := Lib.hid hyc
          have GD := Lib.hid hgd
          have x0 := hgd.box B2.out
          obtain ⟨w3, hw3⟩ : ∃ w3, w2.drew = w3 := ⟨_, rfl⟩
          rw [hw3] at WH x0 GD
          have X0 := Lib.hid x0
          have u0 : w3.cell? ⟨z, 0, none⟩ = some (.int .i64 it) := x0.cell' rfl
          have u1 : w3.cell? ⟨z, 1, none⟩ = some (.int .i64 is) := x0.cell' rfl
          have u2 : w3.cell? ⟨z, 2, none⟩ = some (.int .i64 rt) := x0.cell' rfl
          have u3 : w3.cell? ⟨z, 3, none⟩ = some (.int .i64 rs) := x0.cell' rfl
          rw [hw3]
          clear hw3 hgd hy hyc x0 z0 z1 y2 hlk
          by_cases hy0 : y = 0
          case neg =>
            go_wp2_with (go_at_call 36; refine WH.out.mono ?_; rintro e w4 ⟨rfl, hg4⟩)
            refine bodyPost_ret (results_tmp2 rfl _ _ _) rfl ?_
            exact HNO.out _ ((G2.out.trans GD.out).trans hg4) y YC.out.symm hy0
          case pos =>
          subst hy0
          go_wp2_with (first
            | (go_at_call 36; refine WH.out.mono ?_; rintro e w4 ⟨rfl, hg4⟩; have hb4 := hg4.box X0.out; have v0 := hb4.cell' (i := 0) (v := .int .i64 it) rfl; have v1 := hb4.cell' (i := 1) (v := .int .i64 is) rfl; have v2 := hb4.cell' (i := 2) (v := .int .i64 rt) rfl; have v3 := hb4.cell' (i := 3) (v := .int .i64 rs) rfl; have v4 := hb4.cell' (i := 4) (v := .int .i32 ru) rfl; have v5 := hb4.cell' (i := 5) (v := .int .i64 st) rfl; have PUT := Lib.hid (((J2.out.still GD.out.kept).still hg4.kept).call HX.out YC.out.symm HN.out); clear hg4 hb4)
            | (go_at_call 38; refine PUT.out.mono ?_; rintro e w5 ⟨rfl, hJ5⟩))
          have J5 := Lib.hid hJ5
          have e1 : IntKind.i64.wrap ((n : Int) + 1) = (n : Int) + 1 := IntWalk.i64_in _ (by omega)
          go_roundw
          case rel => exact ⟨n + 1, by go_num, J5.out⟩
          case measure => simp [intOf]; omega
end Go.Proofs.Ytlafodnaifghcaa.Tr
namespace Go.Proofs.Ytlafodnaifghcaa.Tr
open Go.RowKit Go.Proofs.Ytlafodnaifghcaa.St
open Go.ChangeShapes Go.WideShapes Go.Deep
theorem bulk_pos {H : Type} (d : DataW H) : 1 ≤ Rows.uptoBulk d := by
  cases d with
  | lit l => cases l <;> simp [Rows.uptoBulk]
  | _ => simp [Rows.uptoBulk]
theorem bulk_all {H : Type} : ∀ ds : List (DataW H), ds.length ≤ Rows.uptoBulkAll ds
  | [] => Nat.le_refl _
  | d :: r => by
    have h1 := bulk_all r
    have h2 := bulk_pos d
    simp only [Rows.uptoBulkAll, List.length_cons]
    omega
theorem bulk_len {H : Type} {enc : TypeId × Value → H} {w : World} {base : Nat} {spare : Nat → Bool} {held : Bool} {P : Program} {t e : TypeId} (ht : P.underlying t = some (.slice e)) {v : Value} {d : DataW H} {ps : List MemPlace}
    (h : DataW.Trod enc P w base spare held t v d ps) {α : Type} {E : Enc α} {L : List α} (hs : SlAt E w v L) : L.length ≤ Rows.uptoBulk d := by
  obtain ⟨a, c, rfl, _, _⟩ := hs.sl
  obtain ⟨fuel, hf⟩ := h
  rcases open_slice ht hf with ⟨hcs, _⟩ | ⟨x, l, c', m, n, D, Pl, hcs, _, hl, hm, hmm, hx, _⟩
  · simp [Value.cells] at hcs
    omega
  · simp [Value.cells] at hcs
    obtain ⟨_, rfl, _⟩ := hcs
    injection hx with h1 h2
    subst h1
    have h9 := bulk_all ((List.range L.length).map D)
    rw [List.length_map, List.length_range] at h9
    simp only [Rows.uptoBulk]
    omega
end Go.Proofs.Ytlafodnaifghcaa.Tr
