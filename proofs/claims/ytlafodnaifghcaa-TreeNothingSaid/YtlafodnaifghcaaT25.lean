/- An element taken out: what the document in memory becomes. Collect, plainly: where an element stands, and what one round leaves. Collect: what a round is given, what it leaves. -/
import Derived.Test.YtlafodnaifghcaaT19
import Derived.Test.YtlafodnaifghcaaT3
import Derived.Test.YtlafodnaifghcaaT11
namespace Go.Proofs.Ytlafodnaifghcaa.Tr
open Go.RowKit Go.Proofs.Ytlafodnaifghcaa.St
def updS (S : ID → Rw) (r : ID) (s : Rw) (y : ID) : Rw := if y = r then s else S y
theorem delK_len {κ : Type} [DecidableEq κ] {k : κ} : ∀ {l : List (κ × Value)}, k ∈ l.map (·.1) → (delK l k).length + 1 = l.length
  | [], h => by simp at h
  | y :: r, h => by
    show (if y.1 = k then r else y :: delK r k).length + 1 = r.length + 1
    by_cases e : y.1 = k
    · rw [if_pos e]
    · rw [if_neg e, List.length_cons, delK_len (l := r) (by
        rcases List.mem_cons.1 h with h1 | h1
        · exact absurd h1.symm e
        · exact h1)]
variable {w : World} {g : Nat} {A : ID → Nat} {S : ID → Rw}
theorem TAt.del_mem {w3 w5 : World} {mb : Nat} {P K : List Nd} {x : Nd} {s' : Rw} {kvs : List (ID × Value)} (h : TAt w g (P ++ x :: K) A S (some mb)) (hdoc : Doc (P ++ x :: K))
    (hkv : MapK keyI w mb kvs) (hok : KeysOk kvs) (hkl : kvs.length = (P ++ x :: K).length) (hkg : ∀ y, getK kvs y = if y ∈ ids (P ++ x :: K) then some (.pointer (some ⟨A y, 0, none⟩)) else none)
    (hk3 : Kept (fun b => (S x.ref).blk = some b) w w3) (hr : RowAt w3 s' ((kids (P ++ K) x.ref).map fun n => A n.id)) (hs' : s'.blk = (S x.ref).blk)
    (hk5 : Kept (· = mb) (w3.setCell (place g A x.ref) s'.v) w5) (hm5 : MapK keyI w5 mb (delK kvs x.id)) :
    TAt w5 g (P ++ K) A (updS S x.ref s') (some mb) := by
  have hxL : x ∈ P ++ x :: K := by simp
  have hxi : x.id ∈ ids (P ++ x :: K) := List.mem_map.2 ⟨x, hxL, rfl⟩
  have hnd := hdoc.nodup
  have hxz : x.id ≠ ID.zero := fun e => by
    obtain ⟨F, hF, hw, _⟩ := hdoc
    have := WFs.gt F hw x (by rw [hF]; exact hxL)
    rw [e] at this
    exact ID.lt_irrefl _ this
  have hids : ∀ y, y ∈ ids (P ++ K) ↔ y ∈ ids (P ++ x :: K) ∧ y ≠ x.id := fun y => by
    have hnd2 : (ids P ++ x.id :: ids K).Nodup := by have := hnd; simpa [ids] using this
    have h1 := List.nodup_append.1 hnd2
    have h2 : x.id ∉ ids K := (List.nodup_cons.1 h1.2.1).1
    have h3 : x.id ∉ ids P := fun hm => h1.2.2 x.id hm x.id List.mem_cons_self rfl
    have e1 : ids (P ++ K) = ids P ++ ids K := by simp [ids]
    have e2 : ids (P ++ x :: K) = ids P ++ x.id :: ids K := by simp [ids]
    rw [e1, e2, List.mem_append, List.mem_append, List.mem_cons]
    constructor
    · rintro (h | h)
      · exact ⟨.inl h, fun e => h3 (e ▸ h)⟩
      · exact ⟨.inr (.inr h), fun e => h2 (e ▸ h)⟩
    · rintro ⟨h | h | h, hne⟩
      · exact .inl h
      · exact absurd h hne
      · exact .inr h
  have hmem : ∀ n ∈ P ++ K, n ∈ P ++ x :: K := fun n hn => by
    rcases List.mem_append.1 hn with h | h
    · exact List.mem_append.2 (.inl h)
    · exact List.mem_append.2 (.inr (List.mem_cons_of_mem _ h))
  have hRef : ∀ r, Ref (P ++ K) r → Ref (P ++ x :: K) r := fun r hr => hr.imp_right fun h => ((hids r).1 h).1
  have href : Ref (P ++ x :: K) x.ref := hdoc.refs x hxL
  have hSr : updS S x.ref s' x.ref = s' := if_pos rfl
  have hSo : ∀ y, y ≠ x.ref → updS S x.ref s' y = S y := fun y h1 => if_neg h1
  have hrowne : ∀ r, Ref (P ++ x :: K) r → ∀ b, (S r).blk = some b → b ≠ g ∧ (∀ y ∈ ids (P ++ x :: K), b ≠ A y) ∧ b ≠ mb := fun r hr b hb => by
    refine ⟨(h.row r hr).ne h.top (by decide) b hb, fun y hy => ?_, ?_⟩
    · obtain ⟨n, hn, rfl⟩ := List.mem_map.1 hy
      exact (h.row r hr).ne (h.elt n hn) (by decide) b hb
    · rcases h.row r hr with ⟨e1, _⟩ | ⟨b', cap, e1, cs, h2, _⟩
      · rw [e1] at hb; cases hb
      · rw [e1] at hb; cases hb
        exact hkv.ne_blk h2
  have hplace : (place g A x.ref).block = (if x.ref = ID.zero then g else A x.ref) := by unfold place; split <;> rfl
  have keep5 : ∀ b, b < w.heap.size → (S x.ref).blk ≠ some b → b ≠ (place g A x.ref).block → b ≠ mb → w5.heap[b]? = w.heap[b]? := fun b hb h1 h2 h3 => by
    have hb3 : b < w3.heap.size := Nat.lt_of_lt_of_le hb hk3.size
    rw [hk5.block b (by simpa using hb3) h3, Below.heap_setCell _ _ _ _ h2, hk3.block b hb h1]
  have blk5 : ∀ b t cs, Blk w b t cs → (S x.ref).blk ≠ some b → b ≠ (place g A x.ref).block → b ≠ mb → Blk w5 b t cs := fun b t cs hb h1 h2 h3 => (keep5 b hb.lt h1 h2 h3).trans hb
  have put5 : ∀ b t cs o, Blk w b t cs → (S x.ref).blk ≠ some b → place g A x.ref = ⟨b, o, none⟩ → b ≠ mb → Blk w5 b t (cs.setIfInBounds o s'.v) := fun b t cs o hb h1 h2 h3 => by
    have h4 : Blk w3 b t cs := hk3.blk h1 hb
    have h5 := h4.set_ o s'.v
    rw [h2] at hk5
    exact hk5.blk h3 h5
  have hmbg : mb ≠ g := fun e => hkv.ne_blk h.top e.symm
  have hmbe : ∀ n ∈ P ++ x :: K, mb ≠ A n.id := fun n hn e => hkv.ne_blk (h.elt n hn) e.symm
  have hgA : ∀ n ∈ P ++ x :: K, g ≠ A n.id := fun n hn e => Blk.ne_ h.top (h.elt n hn) (by decide) e
  have hrg := hrowne x.ref href
  refine { top := ?_, elt := ?_, row := ?_, by_ := ?_, one := ?_, far := ?_ }
  · by_cases hz : x.ref = ID.zero
    · have h1 := put5 g _ _ 0 h.top (fun e => (hrg g e).1 rfl) (by unfold place; rw [if_pos hz]) (fun e => hmbg e.symm)
      have e1 : updS S x.ref s' ID.zero = s' := by rw [← hz]; exact hSr
      rw [e1]
      exact h1
    · have e1 : updS S x.ref s' ID.zero = S ID.zero := hSo _ (fun e => hz e.symm)
      rw [e1]
      have hrL : x.ref ∈ ids (P ++ x :: K) := href.resolve_left hz
      obtain ⟨n, hn, hne⟩ := List.mem_map.1 hrL
      exact blk5 g _ _ h.top (fun e => (hrg g e).1 rfl) (by rw [hplace, if_neg hz, ← hne]; exact hgA n hn) (fun e => hmbg e.symm)
  · intro n hn0
    have hn := hmem n hn0
    have hni : n.id ∈ ids (P ++ x :: K) := List.mem_map.2 ⟨n, hn, rfl⟩
    by_cases hz : n.id = x.ref
    · have e1 : updS S x.ref s' n.id = s' := by rw [hz]; exact hSr
      rw [e1]
      have hnz : x.ref ≠ ID.zero := fun e0 => by
        obtain ⟨F, hF, hw, _⟩ := hdoc
        have := WFs.gt F hw n (by rw [hF]; exact hn)
        rw [hz, e0] at this
        exact ID.lt_irrefl _ this
      have h1 := put5 (A n.id) _ _ 6 (h.elt n hn) (fun e => (hrg _ e).2.1 n.id hni rfl) (by unfold place; rw [if_neg hnz, hz]) (fun e => hmbe n hn e.symm)
      have e2 : ((ndC n ++ [(S n.id).v]).toArray.setIfInBounds 6 s'.v) = (ndC n ++ [s'.v]).toArray := by simp [ndC]
      rw [e2] at h1
      exact h1
    · have e1 : updS S x.ref s' n.id = S n.id := hSo _ hz
      rw [e1]
      refine blk5 (A n.id) _ _ (h.elt n hn) (fun e => (hrg _ e).2.1 n.id hni rfl) ?_ (fun e => hmbe n hn e.symm)
      rw [hplace]
      split
      · exact fun e => hgA n hn e.symm
      next hz2 => exact fun e => hz (h.one _ hni _ (href.resolve_left hz2) e)
  · intro r hr'
    have hrL := hRef r hr'
    by_cases hz : r = x.ref
    · subst hz
      rw [hSr]
      rcases hr with ⟨h1, h2⟩ | ⟨b, cap, h1, h2⟩
      · exact .inl ⟨h1, h2⟩
      · refine .inr ⟨b, cap, h1, h2.keep (S := fun k => k = (place g A x.ref).block ∨ k = mb) ?_ ?_⟩
        · exact (((Kept.refl (fun k => k = (place g A x.ref).block) w3).setCell (fun _ => rfl) _).mono (fun _ _ h => .inl h)).trans (hk5.mono fun _ _ h => .inr h) (fun _ _ h => h)
        · have hbb : s'.blk = some b := by rw [h1]; rfl
          rw [hs'] at hbb
          obtain ⟨q1, q2, q3⟩ := hrg b hbb
          rintro (e1 | e1)
          · rw [hplace] at e1
            split at e1
            · exact q1 e1
            next hz => exact q2 _ (href.resolve_left hz) e1
          · exact q3 e1
    · rw [hSo r hz, kids_rem (x := x) r, if_neg (fun e => hz e.symm)]
      rcases h.row r hrL with h1 | ⟨b, cap, h1, cs, h2, h3⟩
      · exact .inl h1
      · obtain ⟨q1, q2, q3⟩ := hrowne r hrL b (by rw [h1]; rfl)
        refine .inr ⟨b, cap, h1, cs, blk5 b _ _ h2 (fun e => hz (h.far r x.ref hrL href b (by rw [h1]; rfl) e)) ?_ q3, h3⟩
        rw [hplace]
        split
        · exact q1
        next hz2 => exact q2 _ (href.resolve_left hz2)
  · refine .inr ⟨mb, _, rfl, hm5, hok.del _, ?_, fun y => ?_⟩
    · have hf : x.id ∈ kvs.map (·.1) := Classical.byContradiction fun hn => by
        have h1 := hkg x.id
        rw [if_pos hxi, getK_none.2 hn] at h1
        cases h1
      have h2 := delK_len hf
      have h3 : (P ++ x :: K).length = (P ++ K).length + 1 := by simp; omega
      omega
    · rw [getK_del hok]
      by_cases hy : x.id = y
      · subst hy
        rw [if_pos rfl, if_neg (fun hh => ((hids _).1 hh).2 rfl)]
      · rw [if_neg hy, hkg y]
        by_cases hyL : y ∈ ids (P ++ x :: K)
        · rw [if_pos hyL, if_pos ((hids y).2 ⟨hyL, fun e => hy e.symm⟩)]
        · rw [if_neg hyL, if_neg (fun hh => hyL ((hids y).1 hh).1)]
  · intro y hy z hz hyz
    exact h.one y ((hids y).1 hy).1 z ((hids z).1 hz).1 hyz
  · intro y z hy hz b hb1 hb2
    have hSb : ∀ y, (updS S x.ref s' y).blk = some b → (S y).blk = some b := fun y hb => by
      by_cases h1 : y = x.ref
      · subst h1; rw [hSr, hs'] at hb; exact hb
      · rw [hSo y h1] at hb; exact hb
    exact h.far y z (hRef y hy) (hRef z hz) b (hSb y hb1) (hSb z hb2)
end Go.Proofs.Ytlafodnaifghcaa.Tr
namespace Go.Proofs.Ytlafodnaifghcaa.Tr
open Go.RowKit Go.Proofs.Ytlafodnaifghcaa.St
theorem kids_mid (P K : List Nd) (x : Nd) : kids (P ++ x :: K) x.ref = kids P x.ref ++ x :: kids K x.ref := by
  have h : kids [x] x.ref = [x] := by unfold kids; rw [List.filter_cons_of_pos (by simp), List.filter_nil]
  rw [kids_append, show x :: K = [x] ++ K from rfl, kids_append, h]
  rfl
theorem kids_cut (P K : List Nd) (x : Nd) : (kids (P ++ x :: K) x.ref).eraseIdx (kids P x.ref).length = kids (P ++ K) x.ref := by
  rw [kids_mid, kids_append, List.eraseIdx_append_of_length_le (Nat.le_refl _), Nat.sub_self]
  rfl
/-- its address, and none of the same ahead -/
theorem addr_first {w : World} {g : Nat} {A : ID → Nat} {S : ID → Rw} {mp : Option Nat} {P K : List Nd} {x : Nd} (h : TAt w g (P ++ x :: K) A S mp) (hnd : (ids (P ++ x :: K)).Nodup) :
    ((kids (P ++ x :: K) x.ref).map fun n => A n.id)[(kids P x.ref).length]? = some (A x.id) ∧ ∀ j < (kids P x.ref).length, ((kids (P ++ x :: K) x.ref).map fun n => A n.id)[j]? ≠ some (A x.id) := by
  rw [kids_mid, List.map_append, List.map_cons]
  refine ⟨by rw [List.getElem?_append_right (by simp)]; simp, fun j hj e => ?_⟩
  rw [List.getElem?_append_left (by simpa using hj), List.getElem?_map] at e
  obtain ⟨m, hm, e2⟩ := Option.map_eq_some_iff.1 e
  have hmP : m ∈ P := (List.mem_filter.1 (List.mem_of_getElem? hm)).1
  have h1 : m.id = x.id := h.one _ (List.mem_map.2 ⟨m, by simp [hmP], rfl⟩) _ (List.mem_map.2 ⟨x, by simp, rfl⟩) e2
  have hnd2 : (ids P ++ x.id :: ids K).Nodup := by simpa [ids] using hnd
  exact (List.nodup_append.1 hnd2).2.2 m.id (List.mem_map.2 ⟨m, hmP, rfl⟩) x.id List.mem_cons_self h1
end Go.Proofs.Ytlafodnaifghcaa.Tr
namespace Go.Proofs.Ytlafodnaifghcaa.Tr
open Go.RowKit Go.Proofs.Ytlafodnaifghcaa.St
def collN (L : List Nd) : Int := (L.length : Int) - ((collR L).length : Int)
theorem collR_len (L : List Nd) : (collR L).length ≤ L.length := (collR_sub L).length_le
theorem erase_map {α β : Type} (f : α → β) (l : List α) (j : Nat) : (l.map f).eraseIdx j = (l.eraseIdx j).map f := by
  rw [List.eraseIdx_eq_take_drop_succ, List.eraseIdx_eq_take_drop_succ, List.map_append, List.map_take, List.map_drop]
theorem coll_step {L : List Nd} {i : Nat} (hi : i < L.length) (hdoc : Doc L) : ∃ x P K, L[L.length - 1 - i]? = some x ∧ x ∈ L ∧ L.take (L.length - i) ++ collR (L.drop (L.length - i)) = P ++ x :: K ∧ Doc (P ++ x :: K) ∧ (P ++ x :: K).length ≤ L.length ∧
    (x.st = 3 ∧ kids (P ++ x :: K) x.id = [] → L.take (L.length - (i + 1)) ++ collR (L.drop (L.length - (i + 1))) = P ++ K ∧ collN (L.drop (L.length - (i + 1))) = collN (L.drop (L.length - i)) + 1) ∧
    (¬ (x.st = 3 ∧ kids (P ++ x :: K) x.id = []) → L.take (L.length - (i + 1)) ++ collR (L.drop (L.length - (i + 1))) = P ++ x :: K ∧ collN (L.drop (L.length - (i + 1))) = collN (L.drop (L.length - i))) := by
  have hj : L.length - 1 - i < L.length := by omega
  obtain ⟨x, hx⟩ : ∃ x, L[L.length - 1 - i]? = some x := ⟨_, List.getElem?_eq_getElem hj⟩
  have hx2 : L[L.length - 1 - i] = x := (List.getElem?_eq_some_iff.1 hx).2
  have e1 : L.length - i = L.length - 1 - i + 1 := by omega
  have e2 : L.length - (i + 1) = L.length - 1 - i := by omega
  have e3 : L.drop (L.length - 1 - i) = x :: L.drop (L.length - 1 - i + 1) := by rw [List.drop_eq_getElem_cons hj, hx2]
  have e4 : L.take (L.length - 1 - i + 1) = L.take (L.length - 1 - i) ++ [x] := by rw [List.take_add_one, hx]; rfl
  have hL : L.take (L.length - 1 - i) ++ x :: L.drop (L.length - 1 - i + 1) = L := by rw [← e3, List.take_append_drop]
  have hd : Doc (L.take (L.length - 1 - i) ++ x :: L.drop (L.length - 1 - i + 1)) := by rw [hL]; exact hdoc
  obtain ⟨k1, k2⟩ := coll_kids hd
  have hlc := collR_len (L.drop (L.length - 1 - i + 1))
  have hll : (L.take (L.length - 1 - i) ++ x :: L.drop (L.length - 1 - i + 1)).length = L.length := by rw [hL]
  rw [List.length_append, List.length_cons] at hll
  rw [e1, e2, e4, e3]
  refine ⟨x, L.take (L.length - 1 - i), collR (L.drop (L.length - 1 - i + 1)), hx, List.mem_of_getElem? hx, by simp, k1, by rw [List.length_append, List.length_cons]; omega, fun h => ?_, fun h => ?_⟩
  · have h9 : collR (x :: L.drop (L.length - 1 - i + 1)) = collR (L.drop (L.length - 1 - i + 1)) := by
      rw [collR, if_pos ⟨h.1, k2.1 h.2⟩]
    refine ⟨by rw [h9], ?_⟩
    unfold collN
    rw [h9, List.length_cons]
    push_cast
    omega
  · have h9 : collR (x :: L.drop (L.length - 1 - i + 1)) = x :: collR (L.drop (L.length - 1 - i + 1)) := by
      rw [collR, if_neg (fun hh => h ⟨hh.1, k2.2 hh.2⟩)]
    refine ⟨by rw [h9], ?_⟩
    unfold collN
    rw [h9, List.length_cons, List.length_cons]
    push_cast
    omega
theorem coll_all (L : List Nd) : L.take (L.length - L.length) ++ collR (L.drop (L.length - L.length)) = collR L := by
  rw [Nat.sub_self, List.take_zero, List.drop_zero, List.nil_append]
theorem coll_none (L : List Nd) : L.take (L.length - 0) ++ collR (L.drop (L.length - 0)) = L := by
  rw [Nat.sub_zero, List.take_length, List.drop_length]
  exact List.append_nil _
theorem CJ.later {w W W' : World} {M : Nat → Prop} {bs : List Box} {g : Nat} {L : List Nd} {A : ID → Nat} {S : ID → Rw} {mp : Option Nat} (h : CJ w W.heap.size M bs g L A S mp (fun _ => False) W) (hk : Kept (fun _ => False) W W') : CJ w W'.heap.size M bs g L A S mp (fun _ => False) W' where
  box := fun x hx => ⟨⟨(h.box x hx).1.1, Nat.lt_of_lt_of_le (h.box x hx).1.2 hk.size⟩, hk.blk (fun h => h) (h.box x hx).2⟩
  tree := h.tree.still hk
  low := h.low
  far := fun _ h => h.elim
  size := ⟨Nat.le_trans h.size.1 hk.size, Nat.le_refl _⟩
  kept := h.kept.trans hk fun _ _ h => h.elim
theorem CJ.turned {w W W' : World} {B : Nat} {M X Y : Nat → Prop} {bs : List Box} {g : Nat} {L L' : List Nd} {A A' : ID → Nat} {S S' : ID → Rw} {mp mp' : Option Nat} (h : CJ w B M bs g L A S mp X W) (hk : Kept Y W W') (hY : ∀ b, Y b → foot g L A S mp b) (hM : ∀ b, Y b → M b) (ht : TAt W' g L' A' S' mp') (hf : ∀ b, foot g L' A' S' mp' b → foot g L A S mp b) :
    CJ w B M bs g L' A' S' mp' X W' where
  box := fun x hx => ⟨(h.box x hx).1, hk.blk (fun hy => by have := h.low _ (hY _ hy); have := (h.box x hx).1; omega) (h.box x hx).2⟩
  tree := ht
  low := fun b hb => h.low b (hf b hb)
  far := fun b hb => ⟨(h.far b hb).1, Nat.lt_of_lt_of_le (h.far b hb).2 hk.size⟩
  size := ⟨h.size.1, Nat.le_trans h.size.2 hk.size⟩
  kept := h.kept.trans hk fun b _ hy => hM b hy
theorem foot_cut {g : Nat} {P K : List Nd} {x : Nd} {A : ID → Nat} {S : ID → Rw} {mp : Option Nat} {s' : Rw} (hs' : s'.blk = (S x.ref).blk) (href : Ref (P ++ x :: K) x.ref) {b : Nat} (h : foot g (P ++ K) A (updS S x.ref s') mp b) : foot g (P ++ x :: K) A S mp b := by
  have hi : ∀ y, y ∈ ids (P ++ K) → y ∈ ids (P ++ x :: K) := fun y hy => by
    obtain ⟨n, hn, rfl⟩ := List.mem_map.1 hy
    refine List.mem_map.2 ⟨n, ?_, rfl⟩
    rcases List.mem_append.1 hn with h | h
    · exact List.mem_append.2 (.inl h)
    · exact List.mem_append.2 (.inr (List.mem_cons_of_mem _ h))
  rcases h with h | h | ⟨y, hy, h⟩ | ⟨r, hr, h⟩
  · exact .inl h
  · exact .inr (.inl h)
  · exact .inr (.inr (.inl ⟨y, hi y hy, h⟩))
  · by_cases e : r = x.ref
    · subst e
      rw [updS, if_pos rfl, hs'] at h
      exact .inr (.inr (.inr ⟨_, href, h⟩))
    · rw [updS, if_neg e] at h
      exact .inr (.inr (.inr ⟨r, hr.imp_right (hi r), h⟩))
/-- the caller's boxes -/
def collB (z pl g : Nat) (v : Value) (k : Int) : List Box :=
  [(z, 25, #[.pointer (some ⟨g, 0, none⟩)]), (z + 1, 3, #[.int .i64 k]), (pl, 76, #[v])]
theorem collB_nodup {z pl g : Nat} {v : Value} {k : Int} (h : z + 1 < pl) : ((collB z pl g v k).map (·.1)).Nodup := by
  simp [collB]
  omega
/-- through Collect's rounds -/
def collJ (w : World) (B g pl : Nat) (v : Value) (L : List Nd) (A : ID → Nat) (S : ID → Rw) (mp : Option Nat) (i : Nat) (X : Nat → Prop) (W : World) : Prop :=
  ∃ S', CJ w B (foot g L A S mp) (collB w.heap.size pl g v (collN (L.drop (L.length - i)))) g (L.take (L.length - i) ++ collR (L.drop (L.length - i))) A S' mp X W ∧
    SlAt ptrE W v (L.map fun n => A n.id) ∧ ∀ b, foot g (L.take (L.length - i) ++ collR (L.drop (L.length - i))) A S' mp b → foot g L A S mp b
end Go.Proofs.Ytlafodnaifghcaa.Tr
