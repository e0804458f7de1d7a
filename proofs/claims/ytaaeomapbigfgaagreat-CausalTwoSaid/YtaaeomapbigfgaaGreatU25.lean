/- Maps with keys of whatever kind, told as lists of entries. slices.Compact of identifiers, on a row of the call's own. Keys of Pack's and Check's maps. stamp.Pack: what it does to any identifiers. stamp.Pack, walked. -/
import Derived.Test.YtaaeomapbigfgaaGreatU2
import Derived.WalkKit
import Derived.Test.YtaaeomapbigfgaaGreatU17
import Derived.Maps.AppendAt
namespace Go.Proofs.YtaaeomapbigfgaaGreat
open Go.RowKit

/-- how a key stands: what the model's look for it gives -/
structure KeyE (P : Program) (kt : TypeId) (κ : Type) [DecidableEq κ] where
  enc : κ → Value
  check : ∀ (e : Bool) (k : κ) (w : World), (Instr.checkKey e 10000 kt (enc k)).run P w = .ok () w
  now : ∀ (k x : κ) (d : TypeDesc), P.underlying kt = some d → Instr.sameNow d (enc k) (enc x) = none ∨ Instr.sameNow d (enc k) (enc x) = some (decide (k = x))
  ask : ∀ (k x : κ) (w : World), (Op.equal kt (enc k) (enc x)).run P w = .ok (decide (k = x)) w
  bits : ∀ k, Instr.sameBits 10000 (enc k) (enc k) = true
  und : ∃ d, P.underlying kt = some d
section
variable {κ : Type} [DecidableEq κ]
def getK (kvs : List (κ × Value)) (k : κ) : Option Value := (kvs.find? fun x => decide (x.1 = k)).map (·.2)
def putK : List (κ × Value) → κ → Value → List (κ × Value)
  | [], k, v => [(k, v)]
  | x :: r, k, v => if x.1 = k then (k, v) :: r else x :: putK r k v
def delK : List (κ × Value) → κ → List (κ × Value)
  | [], _ => []
  | x :: r, k => if x.1 = k then r else x :: delK r k
def findK : List (κ × Value) → κ → Nat → Option (Nat × Value)
  | [], _, _ => none
  | x :: r, k, i => if x.1 = k then some (i, x.2) else findK r k (i + 1)
theorem findK_get (kvs : List (κ × Value)) (k : κ) : ∀ i, (findK kvs k i).map (·.2) = getK kvs k := by
  induction kvs with
  | nil => intro i; rfl
  | cons x r ih =>
    intro i
    by_cases h : x.1 = k
    · simp [findK, getK, h]
    · have := ih (i + 1)
      simp only [getK] at this
      simp [findK, getK, h, this]
theorem findK_spec (kvs : List (κ × Value)) (k : κ) : ∀ i n v, findK kvs k i = some (n, v) → i ≤ n ∧ ∃ x, kvs[n - i]? = some x ∧ x.1 = k ∧ x.2 = v := by
  induction kvs with
  | nil => intro i n v h; simp [findK] at h
  | cons x r ih =>
    intro i n v h
    by_cases hx : x.1 = k
    · simp [findK, hx] at h
      obtain ⟨rfl, rfl⟩ := h
      exact ⟨Nat.le_refl _, x, by simp, hx, rfl⟩
    · simp [findK, hx] at h
      obtain ⟨h1, y, h2, h3, h4⟩ := ih _ _ _ h
      exact ⟨by omega, y, by rw [show n - i = (n - (i + 1)) + 1 by omega]; simpa using h2, h3, h4⟩
theorem putK_found (kvs : List (κ × Value)) (k : κ) (v : Value) : ∀ i n u, findK kvs k i = some (n, u) → putK kvs k v = kvs.set (n - i) (k, v) := by
  induction kvs with
  | nil => intro i n u h; simp [findK] at h
  | cons x r ih =>
    intro i n u h
    by_cases hx : x.1 = k
    · simp [findK, hx] at h
      obtain ⟨rfl, _⟩ := h
      simp [putK, hx]
    · simp [findK, hx] at h
      have := findK_spec r k _ _ _ h
      rw [show n - i = (n - (i + 1)) + 1 by omega]
      simp [putK, hx, ih _ _ _ h]
theorem putK_none (kvs : List (κ × Value)) (k : κ) (v : Value) : ∀ i, findK kvs k i = none → putK kvs k v = kvs ++ [(k, v)] := by
  induction kvs with
  | nil => intro i h; rfl
  | cons x r ih =>
    intro i h
    by_cases hx : x.1 = k
    · simp [findK, hx] at h
    · simp [findK, hx] at h
      simp [putK, hx, ih _ h]
theorem delK_found (kvs : List (κ × Value)) (k : κ) : ∀ i n u, findK kvs k i = some (n, u) → delK kvs k = kvs.eraseIdx (n - i) := by
  induction kvs with
  | nil => intro i n u h; simp [findK] at h
  | cons x r ih =>
    intro i n u h
    by_cases hx : x.1 = k
    · simp [findK, hx] at h
      obtain ⟨rfl, _⟩ := h
      simp [delK, hx]
    · simp [findK, hx] at h
      have := findK_spec r k _ _ _ h
      rw [show n - i = (n - (i + 1)) + 1 by omega]
      simp [delK, hx, ih _ _ _ h]
theorem delK_none (kvs : List (κ × Value)) (k : κ) : ∀ i, findK kvs k i = none → delK kvs k = kvs := by
  induction kvs with
  | nil => intro i h; rfl
  | cons x r ih =>
    intro i h
    by_cases hx : x.1 = k
    · simp [findK, hx] at h
    · simp [findK, hx] at h
      simp [delK, hx, ih _ h]
theorem findK_none_iff (kvs : List (κ × Value)) (k : κ) (i : Nat) : findK kvs k i = none ↔ getK kvs k = none := by
  rw [← findK_get kvs k i]; cases findK kvs k i <;> simp
theorem getK_put (kvs : List (κ × Value)) (k x : κ) (v : Value) : getK (putK kvs k v) x = if k = x then some v else getK kvs x := by
  induction kvs with
  | nil => by_cases h : k = x <;> simp [putK, getK, h]
  | cons y r ih =>
    unfold putK
    by_cases hy : y.1 = k
    · rw [if_pos hy]
      by_cases h : k = x
      · simp [getK, h]
      · have : ¬ y.1 = x := fun e => h (hy.symm.trans e)
        simp [getK, h, this]
    · rw [if_neg hy]
      by_cases hyx : y.1 = x
      · have : ¬ k = x := fun e => hy (hyx.trans e.symm)
        simp [getK, hyx, this]
      · unfold getK at ih ⊢
        rw [List.find?_cons_of_neg (by simpa using hyx), ih, List.find?_cons_of_neg (by simpa using hyx)]
/-- no key twice -/
def KeysOk (kvs : List (κ × Value)) : Prop := (kvs.map (·.1)).Nodup
theorem getK_none {kvs : List (κ × Value)} {x : κ} : getK kvs x = none ↔ x ∉ kvs.map (·.1) := by
  induction kvs with
  | nil => simp [getK]
  | cons y r ih =>
    by_cases h : y.1 = x
    · simp [getK, h]
    · unfold getK at ih ⊢
      rw [List.find?_cons_of_neg (by simpa using h), ih]
      simp only [List.map_cons, List.mem_cons, not_or]
      exact ⟨fun h1 => ⟨fun e => h e.symm, h1⟩, fun h1 => h1.2⟩
theorem KeysOk.put {kvs : List (κ × Value)} (h : KeysOk kvs) (k : κ) (v : Value) : KeysOk (putK kvs k v) := by
  unfold KeysOk at h ⊢
  induction kvs with
  | nil => simp [putK]
  | cons y r ih =>
    simp only [List.map_cons, List.nodup_cons] at h
    unfold putK
    by_cases hy : y.1 = k
    · rw [if_pos hy]; simp only [List.map_cons, List.nodup_cons]; rw [← hy]; exact h
    · rw [if_neg hy]
      simp only [List.map_cons, List.nodup_cons]
      refine ⟨?_, ih h.2⟩
      rw [← getK_none, getK_put, if_neg (fun e => hy e.symm), getK_none]
      exact h.1
theorem getK_del {kvs : List (κ × Value)} (h : KeysOk kvs) (k x : κ) : getK (delK kvs k) x = if k = x then none else getK kvs x := by
  unfold KeysOk at h
  induction kvs with
  | nil => simp [delK, getK]
  | cons y r ih =>
    simp only [List.map_cons, List.nodup_cons] at h
    unfold delK
    by_cases hy : y.1 = k
    · rw [if_pos hy]
      by_cases hx : k = x
      · rw [if_pos hx, getK_none, ← hx, ← hy]; exact h.1
      · rw [if_neg hx]
        have : ¬ y.1 = x := fun e => hx (hy.symm.trans e)
        unfold getK
        rw [List.find?_cons_of_neg (by simpa using this)]
    · rw [if_neg hy]
      by_cases hyx : y.1 = x
      · have : ¬ k = x := fun e => hy (hyx.trans e.symm)
        simp [getK, hyx, this]
      · have := ih h.2
        unfold getK at this ⊢
        rw [List.find?_cons_of_neg (by simpa using hyx), this, List.find?_cons_of_neg (by simpa using hyx)]
theorem KeysOk.del {kvs : List (κ × Value)} (h : KeysOk kvs) (k : κ) : KeysOk (delK kvs k) := by
  unfold KeysOk at h ⊢
  have : (delK kvs k).map (·.1) |>.Sublist (kvs.map (·.1)) := by
    refine List.Sublist.map _ ?_
    clear h
    induction kvs with
    | nil => exact List.Sublist.refl _
    | cons y r ih =>
      unfold delK
      split
      · exact List.sublist_cons_self _ _
      · exact ih.cons_cons _
  exact this.nodup h

/-- block b is a map of these entries, in their order -/
def MapK {P : Program} {kt : TypeId} (K : KeyE P kt κ) (w : World) (b : Nat) (kvs : List (κ × Value)) : Prop :=
  ∃ es clk, w.heap[b]? = some (.map es clk) ∧ es.toList.map (fun e => (e.key, e.val)) = kvs.map (fun x => (K.enc x.1, x.2))
variable {P : Program} {w : World} {T kt et : TypeId} {K : KeyE P kt κ} {b : Nat} {kvs : List (κ × Value)} {k : κ}
theorem run_findAsking : ∀ (l : List MapEntry) (kvs : List (κ × Value)) (i : Nat), l.map (fun e => (e.key, e.val)) = kvs.map (fun x => (K.enc x.1, x.2)) → (Instr.findAsking kt (K.enc k) l i).run P w = .ok (findK kvs k i) w := by
  intro l
  induction l with
  | nil => intro kvs i h; cases kvs with | nil => simp [Instr.findAsking, findK] | cons x r => simp at h
  | cons e l ih =>
    intro kvs i h
    cases kvs with
    | nil => simp at h
    | cons x r =>
      simp only [List.map_cons, List.cons.injEq, Prod.mk.injEq] at h
      obtain ⟨⟨h1, h2⟩, h3⟩ := h
      have ha := K.ask k x.1 w
      rw [← h1] at ha
      by_cases hx : x.1 = k
      · simp [Instr.findAsking, ha, hx, findK, h2]
      · have hx' : ¬ k = x.1 := fun e => hx e.symm
        simp [Instr.findAsking, ha, hx, hx', findK, ih r (i + 1) h3]
theorem findNow_any {d : TypeDesc} (hd : P.underlying kt = some d) : ∀ (l : List MapEntry) (kvs : List (κ × Value)) (i : Nat), l.map (fun e => (e.key, e.val)) = kvs.map (fun x => (K.enc x.1, x.2)) →
    Instr.findNow d (K.enc k) l i = none ∨ Instr.findNow d (K.enc k) l i = some (findK kvs k i) := by
  intro l
  induction l with
  | nil => intro kvs i h; cases kvs with | nil => exact .inr rfl | cons x r => simp at h
  | cons e l ih =>
    intro kvs i h
    cases kvs with
    | nil => simp at h
    | cons x r =>
      simp only [List.map_cons, List.cons.injEq, Prod.mk.injEq] at h
      obtain ⟨⟨h1, h2⟩, h3⟩ := h
      have hn := K.now k x.1 d hd
      rw [← h1] at hn
      rcases hn with hn | hn
      · left; simp [Instr.findNow, hn]
      · by_cases hx : x.1 = k
        · right; simp [Instr.findNow, hn, hx, findK, h2]
        · have hx' : ¬ k = x.1 := fun e => hx e.symm
          rcases ih r (i + 1) h3 with h4 | h4
          · left; simp [Instr.findNow, hn, hx', h4]
          · right; simp [Instr.findNow, hn, hx, hx', findK, h4]
theorem run_findKey_any {es : List MapEntry} (he : es.map (fun e => (e.key, e.val)) = kvs.map (fun x => (K.enc x.1, x.2))) : (Instr.findKey kt (K.enc k) es).run P w = .ok (findK kvs k 0) w := by
  obtain ⟨d, hd⟩ := K.und
  rcases findNow_any (k := k) hd es kvs 0 he with h | h
  · simp [Instr.findKey, run_underlying hd, h, run_findAsking es kvs 0 he]
  · simp [Instr.findKey, run_underlying hd, h]
theorem run_lookupK_ok (ht : P.underlying T = some (.map kt et)) (hm : MapK K w b kvs) {v : Value} (hv : getK kvs k = some v) :
    (Instr.lookup T (.map (some b)) (K.enc k) true).run P w = .ok (.tuple #[v, .bool true]) w := by
  obtain ⟨es, clk, hb, he⟩ := hm
  have hg := findK_get kvs k 0
  rw [hv] at hg
  obtain ⟨⟨n, u⟩, hf, rfl⟩ : ∃ x, findK kvs k 0 = some x ∧ x.2 = v := by cases h : findK kvs k 0 <;> simp_all
  simp [Instr.lookup, run_underlying ht, MapKept.run_getObj_map hb, Result.andThen, K.check, run_findKey_any he, hf]
theorem run_lookupK_none_ok (ht : P.underlying T = some (.map kt et)) (hm : MapK K w b kvs) (hv : getK kvs k = none) {z : Value} (hz : (zeroValue et).run P w = .ok z w) :
    (Instr.lookup T (.map (some b)) (K.enc k) true).run P w = .ok (.tuple #[z, .bool false]) w := by
  obtain ⟨es, clk, hb, he⟩ := hm
  simp [Instr.lookup, run_underlying ht, MapKept.run_getObj_map hb, Result.andThen, K.check, run_findKey_any he, (findK_none_iff kvs k 0).2 hv, hz]
theorem run_lookupK (ht : P.underlying T = some (.map kt et)) (hm : MapK K w b kvs) {v : Value} (hv : getK kvs k = some v) :
    (Instr.lookup T (.map (some b)) (K.enc k) false).run P w = .ok v w := by
  obtain ⟨es, clk, hb, he⟩ := hm
  have hg := findK_get kvs k 0
  rw [hv] at hg
  obtain ⟨⟨n, u⟩, hf, rfl⟩ : ∃ x, findK kvs k 0 = some x ∧ x.2 = v := by cases h : findK kvs k 0 <;> simp_all
  simp [Instr.lookup, run_underlying ht, MapKept.run_getObj_map hb, Result.andThen, K.check, run_findKey_any he, hf]
theorem run_lookupK_none (ht : P.underlying T = some (.map kt et)) (hm : MapK K w b kvs) (hv : getK kvs k = none) {z : Value} (hz : (zeroValue et).run P w = .ok z w) :
    (Instr.lookup T (.map (some b)) (K.enc k) false).run P w = .ok z w := by
  obtain ⟨es, clk, hb, he⟩ := hm
  simp [Instr.lookup, run_underlying ht, MapKept.run_getObj_map hb, Result.andThen, K.check, run_findKey_any he, (findK_none_iff kvs k 0).2 hv, hz]
theorem MapK.lt (h : MapK K w b kvs) : b < w.heap.size := by
  obtain ⟨es, clk, h1, h2⟩ := h
  rcases Nat.lt_or_ge b w.heap.size with h | h
  · exact h
  · simp [Array.getElem?_eq_none h] at h1
theorem MapK.keep {S : Nat → Prop} {w' : World} (h : MapK K w b kvs) (hk : Kept S w w') (hb : ¬ S b) : MapK K w' b kvs := by
  have hlt := h.lt
  obtain ⟨es, clk, h1, h2⟩ := h
  exact ⟨es, clk, by rw [hk.block b hlt hb]; exact h1, h2⟩
theorem MapK.ne_blk {g : Nat} {t : TypeId} {cs : Array Value} (h : MapK K w b kvs) (hb : Blk w g t cs) : g ≠ b := by
  rintro rfl
  obtain ⟨es, clk, h1, h2⟩ := h
  unfold Blk at hb
  rw [hb] at h1
  cases h1
theorem MapK.made (w : World) : MapK K (w.alloc (.map #[] 0)) w.heap.size [] := ⟨#[], 0, heap_alloc_new w _, rfl⟩
theorem kept_obj (w : World) (b : Nat) (o : Obj) : Kept (· = b) w { w with heap := w.heap.setIfInBounds b o } := ⟨rfl, rfl, rfl, by simp, fun i _ hn => by
  show (w.heap.setIfInBounds b o)[i]? = _
  rw [Array.getElem?_setIfInBounds_ne (fun e => hn e.symm)]⟩
theorem run_updateK (ht : P.underlying T = some (.map kt et)) (hm : MapK K w b kvs) (v : Value) :
    ∃ w', (Instr.mapUpdate T (.map (some b)) (K.enc k) v).run P w = .ok () w' ∧ MapK K w' b (putK kvs k v) ∧ Kept (· = b) w w' := by
  have hlt := hm.lt
  obtain ⟨es, clk, hb, he⟩ := hm
  cases hf : findK kvs k 0 with
  | none =>
    refine ⟨{ w with heap := w.heap.setIfInBounds b (.map (es.push { key := K.enc k, val := v, born := clk }) (clk + 1)) }, ?_, ⟨es.push { key := K.enc k, val := v, born := clk }, clk + 1, ?_, ?_⟩, kept_obj _ _ _⟩
    · simp [Instr.mapUpdate, run_underlying ht, MapKept.run_getObj_map hb, Result.andThen, K.check, run_findKey_any he, hf, MapKept.run_setObj_map _ hb]
    · simp [hlt]
    · rw [putK_none kvs k v 0 hf]; simp [he]
  | some x =>
    obtain ⟨n, u⟩ := x
    obtain ⟨-, x, hx, rfl, rfl⟩ := findK_spec kvs k 0 n u hf
    have hn : n < kvs.length := by
      rcases Nat.lt_or_ge n kvs.length with h | h
      · exact h
      · rw [List.getElem?_eq_none (by omega)] at hx; cases hx
    have hlen : es.size = kvs.length := by have := congrArg List.length he; simpa using this
    have hkey : es[n].key = K.enc x.1 := by
      have h0 := congrArg (·[n]?) he
      simp only [List.getElem?_map] at h0
      rw [Nat.sub_zero] at hx
      rw [hx] at h0
      simp [Array.getElem?_eq_getElem (show n < es.size by omega)] at h0
      exact h0.1
    refine ⟨{ w with heap := w.heap.setIfInBounds b (.map (es.modify n fun e => { e with key := K.enc x.1, val := v }) clk) }, ?_, ⟨es.modify n fun e => { e with key := K.enc x.1, val := v }, clk, ?_, ?_⟩, kept_obj _ _ _⟩
    · simp [Instr.mapUpdate, run_underlying ht, MapKept.run_getObj_map hb, Result.andThen, K.check, run_findKey_any he, hf, MapKept.run_setObj_map _ hb, Array.getElem?_eq_getElem (show n < es.size by omega), hkey, Instr.keyThatStays, K.bits]
    · simp [hlt]
    · rw [putK_found kvs x.1 v 0 n _ hf]
      apply List.ext_getElem?
      intro i
      have h0 := congrArg (·[i]?) he
      simp only [List.getElem?_map] at h0 ⊢
      rw [Nat.sub_zero, Array.getElem?_toList, Array.getElem?_modify, List.getElem?_set]
      rw [Array.getElem?_toList] at h0
      by_cases hi : n = i
      · subst hi
        simp [hn, Array.getElem?_eq_getElem (show n < es.size by omega)]
      · simp [hi, h0]
theorem run_deleteK (ht : P.underlying T = some (.map kt et)) (ty : TypeId) (hm : MapK K w b kvs) :
    ∃ w', (Builtin.delete_ #[T, kt] ty #[.map (some b), K.enc k]).run P w = .ok (.tuple #[]) w' ∧ MapK K w' b (delK kvs k) ∧ Kept (· = b) w w' := by
  have hlt := hm.lt
  obtain ⟨es, clk, hb, he⟩ := hm
  cases hf : findK kvs k 0 with
  | none =>
    refine ⟨{ w with heap := w.heap.setIfInBounds b (.map es clk) }, ?_, ⟨es, clk, ?_, ?_⟩, kept_obj _ _ _⟩
    · simp [Builtin.delete_, run_underlying ht, MapKept.run_getObj_map hb, Result.andThen, K.check, run_findKey_any he, hf, MapKept.run_setObj_map _ hb]
    · simp [hlt]
    · rw [delK_none kvs k 0 hf]; exact he
  | some x =>
    obtain ⟨n, u⟩ := x
    refine ⟨{ w with heap := w.heap.setIfInBounds b (.map (es.eraseIdxIfInBounds n) clk) }, ?_, ⟨es.eraseIdxIfInBounds n, clk, ?_, ?_⟩, kept_obj _ _ _⟩
    · simp [Builtin.delete_, run_underlying ht, MapKept.run_getObj_map hb, Result.andThen, K.check, run_findKey_any he, hf, MapKept.run_setObj_map _ hb]
    · simp [hlt]
    · rw [delK_found kvs k 0 n _ hf, Array.toList_eraseIdxIfInBounds, Nat.sub_zero, Go.ChangeMaps.map_eraseIdx, he, ← Go.ChangeMaps.map_eraseIdx]
end
end Go.Proofs.YtaaeomapbigfgaaGreat
namespace Go.Proofs.YtaaeomapbigfgaaGreat.St
open Go.RowKit

/-- without those that stand behind one alike -/
def ddStep (acc : List ID) (x : ID) : List ID := if acc.getLast? = some x then acc else acc ++ [x]
def dd (l : List ID) : List ID := l.foldl ddStep []
theorem dd_snoc (l : List ID) (x : ID) : dd (l ++ [x]) = ddStep (dd l) x := by simp [dd, List.foldl_append]
theorem dd_take (D : List ID) {j : Nat} {x : ID} (h : D[j]? = some x) : dd (D.take (j + 1)) = ddStep (dd (D.take j)) x := by rw [List.take_add_one, h]; exact dd_snoc _ _
theorem snoc_ind {P : List ID → Prop} (h0 : P []) (h1 : ∀ l x, P l → P (l ++ [x])) (l : List ID) : P l := by
  have : ∀ n (l : List ID), l.length = n → P l := fun n => by
    induction n with
    | zero => intro l hl; rw [List.length_eq_zero_iff.1 hl]; exact h0
    | succ n ih =>
      intro l hl
      have hne : l ≠ [] := by rintro rfl; simp at hl
      rw [← List.dropLast_concat_getLast hne]
      exact h1 _ _ (ih _ (by simp [hl]))
  exact this _ l rfl
theorem dd_last (l : List ID) : (dd l).getLast? = l.getLast? := by
  induction l using snoc_ind with
  | h0 => rfl
  | h1 l x ih =>
    rw [dd_snoc]
    unfold ddStep
    split
    · rename_i h; rw [h]; simp
    · simp
theorem dd_mem (l : List ID) (x : ID) : x ∈ dd l ↔ x ∈ l := by
  induction l using snoc_ind with
  | h0 => simp [dd]
  | h1 l y ih =>
    rw [dd_snoc]
    unfold ddStep
    split
    · rename_i h
      rw [ih, List.mem_append]
      constructor
      · exact .inl
      · rintro (h1 | h1)
        · exact h1
        · simp at h1; subst h1
          rw [dd_last] at h
          exact List.mem_of_getLast? h
    · rw [List.mem_append, List.mem_append, ih]
theorem dd_len (l : List ID) : (dd l).length ≤ l.length := by
  induction l using snoc_ind with
  | h0 => simp [dd]
  | h1 l y ih => rw [dd_snoc]; unfold ddStep; split <;> simp <;> omega
theorem dd_rising {l : List ID} (h : Sorted l) : Rising (dd l) := by
  induction l using snoc_ind with
  | h0 => exact List.Pairwise.nil
  | h1 l y ih =>
    have hs := List.pairwise_append.1 h
    have hr := ih hs.1
    rw [dd_snoc]
    unfold ddStep
    split
    · exact hr
    · rename_i hne
      refine List.pairwise_append.2 ⟨hr, by simp, fun a ha b hb => ?_⟩
      simp at hb
      subst hb
      have hle : ¬ b.lt a := hs.2.2 a ((dd_mem l a).1 ha) b (by simp)
      rcases a.lt_or b with h1 | h1 | h1
      · exact h1
      · subst h1
        exfalso
        -- a stands in dd l, and is not the last: the last is above it, yet not above the next
        cases hl : (dd l).getLast? with
        | none => rw [List.getLast?_eq_none_iff] at hl; rw [hl] at ha; cases ha
        | some z =>
          have hz : z ∈ dd l := List.mem_of_getLast? hl
          have hza : z ≠ a := fun e => hne (by rw [hl, e])
          have hzl : ¬ a.lt z := hs.2.2 z ((dd_mem l z).1 hz) a (by simp)
          have : ∀ {m : List ID}, Rising m → m.getLast? = some z → a ∈ m → a = z ∨ a.lt z := by
            intro m hm hmz ham
            obtain ⟨m', rfl⟩ := List.getLast?_eq_some_iff.1 hmz
            rcases List.mem_append.1 ham with h | h
            · exact .inr ((List.pairwise_append.1 hm).2.2 a h z (by simp))
            · exact .inl (by simpa using h)
          rcases this hr hl ha with e | e
          · exact hza e.symm
          · exact hzl e
      · exact absurd h1 hle
theorem last_take {D : List ID} {j : Nat} {y : ID} (h : D[j]? = some y) : (dd (D.take (j + 1))).getLast? = some y := by
  rw [dd_last, List.take_add_one, h]; simp
theorem dd_same {D : List ID} {j : Nat} {y : ID} (h1 : D[j]? = some y) (h2 : D[j + 1]? = some y) : dd (D.take (j + 1 + 1)) = dd (D.take (j + 1)) := by
  rw [dd_take D h2]; unfold ddStep; rw [if_pos (last_take h1)]
theorem dd_other {D : List ID} {j : Nat} {x y : ID} (h1 : D[j]? = some y) (h2 : D[j + 1]? = some x) (hne : x ≠ y) : dd (D.take (j + 1 + 1)) = dd (D.take (j + 1)) ++ [x] := by
  rw [dd_take D h2]; unfold ddStep; rw [if_neg]; rw [last_take h1]; exact fun e => hne (Option.some.inj e).symm
theorem eq_cases (x y : ID) : x = y ∨ (x ≠ y ∧ (x.t == y.t) = false) ∨ (x ≠ y ∧ (x.t == y.t) = true ∧ (x.s == y.s) = false) := by
  by_cases h1 : x.t = y.t
  · by_cases h2 : x.s = y.s
    · exact .inl (by rw [ID.ext_iff]; exact ⟨h1, h2⟩)
    · exact .inr (.inr ⟨fun e => h2 (by rw [e]), by simpa using h1, by simpa using h2⟩)
  · exact .inr (.inl ⟨fun e => h1 (by rw [e]), by simpa using h1⟩)

/-- what Compact keeps: k written, j looked at -/
structure CoInv (D : List ID) (k j : Nat) (X : List ID) : Prop where
  len : X.length = D.length
  low : X.take k = dd (D.take j)
  kl : k = (dd (D.take j)).length
  lt : k < j
  high : ∀ m, j ≤ m + 1 → X[m]? = D[m]?
theorem CoInv.start {D : List ID} {k : Nat} {y : ID} (h : dd (D.take (k + 1)) = D.take (k + 1)) (h1 : D[k]? = some y) (h2 : D[k + 1]? = some y) : CoInv D (k + 1) (k + 1 + 1) D := by
  have hl := (List.getElem?_eq_some_iff.1 h2).1
  have e := (dd_same h1 h2).trans h
  exact ⟨rfl, e.symm, by rw [e, List.length_take]; omega, by omega, fun _ _ => rfl⟩
theorem CoInv.skip {D X : List ID} {k j : Nat} {y : ID} (h : CoInv D k (j + 1) X) (h1 : D[j]? = some y) (h2 : D[j + 1]? = some y) : CoInv D k (j + 1 + 1) X := by
  have e := dd_same h1 h2
  exact ⟨h.len, by rw [e]; exact h.low, by rw [e]; exact h.kl, by have := h.lt; omega, fun m hm => h.high m (by omega)⟩
theorem CoInv.keep {D X : List ID} {k j : Nat} {x y : ID} (h : CoInv D k (j + 1) X) (h1 : D[j]? = some y) (h2 : D[j + 1]? = some x) (hne : x ≠ y) : CoInv D (k + 1) (j + 1 + 1) (X.set k x) := by
  have hj : j + 1 < D.length := (List.getElem?_eq_some_iff.1 h2).1
  have hl := h.len
  have hk := h.lt
  have e := dd_other h1 h2 hne
  refine ⟨by simpa using hl, ?_, by rw [e, List.length_append, ← h.kl]; rfl, by omega, fun m hm => ?_⟩
  · rw [e, ← h.low, List.take_add_one, List.take_set_of_le (Nat.le_refl _), List.getElem?_set_self (by omega)]
    rfl
  · rw [List.getElem?_set_ne (by omega)]
    exact h.high m (by omega)
theorem CoInv.done {D X : List ID} {k : Nat} (h : CoInv D k D.length X) : X.take k = dd D ∧ k = (dd D).length := by
  have h1 := h.low
  have h2 := h.kl
  rw [List.take_length] at h1 h2
  exact ⟨h1, h2⟩
theorem dd_short {D : List ID} (h : D.length < 2) : dd D = D := by
  match D, h with
  | [], _ => rfl
  | [x], _ => rfl
  | _ :: _ :: _, h => simp at h; omega

end Go.Proofs.YtaaeomapbigfgaaGreat.St
namespace Go.Proofs.YtaaeomapbigfgaaGreat.St
open Go.RowKit

theorem eqIn_id (x y : ID) (w : World) : (Op.equal 39 (idV x) (idV y)).run Tryz.prog w = .ok (decide (x = y)) w := by
  have h : decide (x = y) = (x.t == y.t && x.s == y.s) := by
    rw [Bool.eq_iff_iff]
    simp [ID.ext_iff]
  rw [h]
  obtain ⟨a, b⟩ := x
  obtain ⟨c, d⟩ := y
  show (Op.equalIn 10000 39 (.agg #[.int .i64 a, .int .i64 b]) (.agg #[.int .i64 c, .int .i64 d])).run Tryz.prog w = _
  go_simp
  by_cases h1 : a = c
  · by_cases h2 : b = d
    · simp [h1, h2]
    · simp [h1, h2]
  · simp [h1]
def idK : KeyE Tryz.prog 39 ID where
  enc := idV
  check := fun _ _ _ => by kernel_rfl
  now := fun k x d hd => .inl (by
    have e : Tryz.prog.underlying 39 = some d := hd
    rw [Tryz.underlying39] at e
    cases e
    rfl)
  ask := eqIn_id
  bits := fun k => by simp [idV, Instr.sameBits]
  und := ⟨_, Tryz.underlying39⟩
def intK : KeyE Tryz.prog 3 Int where
  enc := Value.int .i64
  check := fun _ _ _ => by kernel_rfl
  now := fun k x d hd => .inr (by
    have e : Tryz.prog.underlying 3 = some d := hd
    rw [Tryz.underlying3] at e
    cases e
    simp only [Instr.sameNow, if_pos]
    rw [show (k == x) = decide (k = x) by rw [Bool.eq_iff_iff]; simp])
  ask := fun k x w => by
    have h : decide (k = x) = (k == x) := by rw [Bool.eq_iff_iff]; simp
    rw [h]
    exact run_equalIn_int w 9999 3 .i64 .i64 k x Tryz.underlying3
  bits := fun k => by simp [Instr.sameBits]
  und := ⟨_, Tryz.underlying3⟩
end Go.Proofs.YtaaeomapbigfgaaGreat.St
namespace Go.Proofs.YtaaeomapbigfgaaGreat.St
open Go.RowKit

/-- the map from the identifier that would follow a run to its place -/
def GrowsOk (kvs : List (ID × Value)) (out : List Run) : Prop := KeysOk kvs ∧ ∀ x, getK kvs x = (growAt out x).map fun k : Nat => Value.int .i64 (k : Int)
theorem growAt_next {out : List Run} (hn : (out.map Run.next).Nodup) {k : Nat} {r : Run} (hk : out[k]? = some r) : growAt out r.next = some k := growAt_of hn hk rfl
theorem growAt_iff {out : List Run} (hn : (out.map Run.next).Nodup) {x : ID} {k : Nat} : growAt out x = some k ↔ ∃ r, out[k]? = some r ∧ r.next = x :=
  ⟨growAt_some, fun ⟨_, h1, h2⟩ => growAt_of hn h1 h2⟩
theorem opt_ext {α : Type} {a b : Option α} (h : ∀ k, a = some k ↔ b = some k) : a = b := by
  cases a with
  | none => cases b with
    | none => rfl
    | some y => exact absurd ((h y).2 rfl) (by simp)
  | some x => exact ((h x).1 rfl).symm
theorem modify_get {out : List Run} {k i : Nat} {r : Run} (hk : out[k]? = some r) : (out.modify k Run.up)[i]? = if k = i then some r.up else out[i]? := by
  rw [List.getElem?_modify]
  by_cases h : k = i
  · subst h; simp [hk]
  · simp [h]
/-- a run that grows -/
theorem GrowsOk.grow {kvs : List (ID × Value)} {out : List Run} {P Q : ID → Prop} {x : ID} {k : Nat} (h : GrowsOk kvs out) (ho : PackOk out P) (ho2 : PackOk (packStep out x) Q) (hg : growAt out x = some k) :
    GrowsOk (putK (delK kvs x) ⟨x.t + 1, x.s⟩ (.int .i64 (k : Int))) (packStep out x) := by
  obtain ⟨h1, h2⟩ := h
  refine ⟨(h1.del x).put _ _, fun y => ?_⟩
  rw [getK_put, getK_del h1, h2]
  have e : packStep out x = out.modify k Run.up := by unfold packStep; rw [hg]
  obtain ⟨r, hk, hr⟩ := growAt_some hg
  have hn2 := ho2.nodup
  rw [e] at hn2 ⊢
  have hup : r.up.next = ⟨x.t + 1, x.s⟩ := by
    have e1 := congrArg ID.t hr
    have e2 := congrArg ID.s hr
    simp only [Run.next] at e1 e2
    rw [ID.ext_iff]
    simp only [Run.next, Run.up]
    exact ⟨by omega, e2⟩
  have hk2 : (out.modify k Run.up)[k]? = some r.up := by rw [modify_get hk, if_pos rfl]
  by_cases hy : (⟨x.t + 1, x.s⟩ : ID) = y
  · rw [if_pos hy, growAt_of hn2 hk2 (hup.trans hy)]; rfl
  · rw [if_neg hy]
    have key : growAt (out.modify k Run.up) y = if x = y then none else growAt out y := by
      refine opt_ext fun m => ?_
      rw [growAt_iff hn2]
      by_cases hxy : x = y
      · rw [if_pos hxy]
        constructor
        · rintro ⟨q, hq, hqn⟩
          rw [modify_get hk] at hq
          split at hq
          · cases hq; exact absurd (hup.symm.trans hqn) hy
          · rename_i hkm
            have h3 : growAt out x = some m := growAt_of ho.nodup hq (hqn.trans hxy.symm)
            rw [hg] at h3
            exact absurd (Option.some.inj h3) hkm
        · intro h3; cases h3
      · rw [if_neg hxy, growAt_iff ho.nodup]
        constructor
        · rintro ⟨q, hq, hqn⟩
          rw [modify_get hk] at hq
          split at hq
          · cases hq; exact absurd (hup.symm.trans hqn) hy
          · exact ⟨q, hq, hqn⟩
        · rintro ⟨q, hq, hqn⟩
          refine ⟨q, ?_, hqn⟩
          rw [modify_get hk, if_neg]
          · exact hq
          · rintro rfl
            rw [hk] at hq
            cases hq
            exact hxy (hr.symm.trans hqn)
    rw [key]
    by_cases hxy : x = y
    · rw [if_pos hxy, if_pos hxy]; rfl
    · rw [if_neg hxy, if_neg hxy]
/-- a new run -/
theorem GrowsOk.new {kvs : List (ID × Value)} {out : List Run} {P Q : ID → Prop} {x : ID} (h : GrowsOk kvs out) (ho : PackOk out P) (ho2 : PackOk (packStep out x) Q) (hg : growAt out x = none) :
    GrowsOk (putK kvs ⟨x.t + 1, x.s⟩ (.int .i64 (out.length : Int))) (packStep out x) := by
  obtain ⟨h1, h2⟩ := h
  refine ⟨h1.put _ _, fun y => ?_⟩
  rw [getK_put, h2]
  have e : packStep out x = out ++ [⟨x, 1⟩] := by unfold packStep; rw [hg]
  have hn2 := ho2.nodup
  rw [e] at hn2 ⊢
  have hlast : (out ++ [⟨x, 1⟩])[out.length]? = some ⟨x, 1⟩ := by simp
  have hnext : Run.next ⟨x, 1⟩ = ⟨x.t + 1, x.s⟩ := rfl
  by_cases hy : (⟨x.t + 1, x.s⟩ : ID) = y
  · rw [if_pos hy, growAt_of hn2 hlast (hnext.trans hy)]; rfl
  · rw [if_neg hy]
    congr 1
    refine opt_ext fun m => ?_
    rw [growAt_iff hn2, growAt_iff ho.nodup]
    constructor
    · rintro ⟨q, hq, hqn⟩
      exact ⟨q, by rw [List.getElem?_append_left (List.getElem?_eq_some_iff.1 hq).1]; exact hq, hqn⟩
    · rintro ⟨q, hq, hqn⟩
      by_cases hm : m < out.length
      · rw [List.getElem?_append_left hm] at hq; exact ⟨q, hq, hqn⟩
      · have : m = out.length := by
          have := (List.getElem?_eq_some_iff.1 hq).1
          simp at this; omega
        subst this
        rw [hlast] at hq
        cases hq
        exact absurd (hnext.symm.trans hqn) hy
theorem packOk_take {S : List ID} (hS : Rising S) : ∀ n, n ≤ S.length → PackOk (packL (S.take n)) (fun y => y ∈ S.take n) := by
  intro n
  induction n with
  | zero => intro _; exact ⟨by simp [packL], by simp [packL], by simp [packL]⟩
  | succ n ih =>
    intro hn
    obtain ⟨x, hx⟩ := get_of_lt (show n < S.length by omega)
    have e : S.take (n + 1) = S.take n ++ [x] := by rw [List.take_add_one, hx]; rfl
    have e2 : packL (S.take (n + 1)) = packStep (packL (S.take n)) x := by rw [e]; simp [packL, List.foldl_append]
    rw [e2]
    refine packStep_ok (ih (by omega)) (fun y hy => ?_) (fun y hy => by rw [e]; exact List.mem_append_left _ hy) (by rw [e]; simp)
    rintro rfl
    rw [Rising, ← List.take_append_drop n S] at hS
    have h1 := (List.pairwise_append.1 hS).2.2 y hy y (by rw [List.drop_eq_getElem_cons (by omega)]; rw [List.getElem?_eq_getElem (by omega)] at hx; rw [Option.some.inj hx]; simp)
    exact ID.lt_irrefl _ h1
theorem packL_take_succ {S : List ID} {n : Nat} {x : ID} (hx : S[n]? = some x) : packL (S.take (n + 1)) = packStep (packL (S.take n)) x := by
  rw [List.take_add_one, hx]; simp [packL, List.foldl_append]
theorem packL_len (S : List ID) : (packL S).length ≤ S.length := by
  have : ∀ (l : List ID) (out : List Run), (l.foldl packStep out).length ≤ out.length + l.length := by
    intro l
    induction l with
    | nil => intro out; simp
    | cons x l ih =>
      intro out
      have h1 := ih (packStep out x)
      have h2 := packStep_len out x
      simp only [List.foldl_cons, List.length_cons]
      omega
  have h := this S []
  rw [List.length_nil, Nat.zero_add] at h
  exact h
theorem packL_ids (S : List ID) : ∀ r ∈ packL S, r.id ∈ S := by
  induction S using snoc_ind with
  | h0 => simp [packL]
  | h1 l x ih =>
    have e : packL (l ++ [x]) = packStep (packL l) x := by simp [packL, List.foldl_append]
    rw [e]
    unfold packStep
    cases hg : growAt (packL l) x with
    | none =>
      intro r hr
      rcases List.mem_append.1 hr with hr | hr
      · exact List.mem_append_left _ (ih r hr)
      · simp only [List.mem_cons, List.not_mem_nil, or_false] at hr
        subst hr
        exact List.mem_append_right _ (by simp)
    | some k =>
      obtain ⟨q, hk, hq⟩ := growAt_some hg
      intro r hr
      obtain ⟨i, hi⟩ := List.getElem?_of_mem hr
      have hi2 : ((packL l).modify k Run.up)[i]? = some r := hi
      rw [modify_get hk] at hi2
      split at hi2
      · cases hi2
        exact List.mem_append_left _ (ih q (List.mem_of_getElem? hk))
      · exact List.mem_append_left _ (ih r (List.mem_of_getElem? hi2))
end Go.Proofs.YtaaeomapbigfgaaGreat.St
namespace Go.Proofs.YtaaeomapbigfgaaGreat.St
open Go.RowKit

theorem setOf_dd {L D' : List ID} (hp : D'.Perm (L.filter isB)) (hs : Sorted D') : SetOf L (dd D') := by
  refine ⟨dd_rising hs, fun x => ?_⟩
  rw [dd_mem, hp.mem_iff, List.mem_filter]
  simp [isB]

theorem OwnAt.run {w : World} {t : TypeId} {g cap : Nat} {D : List Run} (h : OwnAt runE w t g cap D) {i : Nat} {x : Run} (hx : D[i]? = some x) :
    w.cell? ⟨g, i * 3, none⟩ = some (.int .i64 x.id.t) ∧ w.cell? ⟨g, i * 3 + 1, none⟩ = some (.int .i64 x.id.s) ∧ w.cell? ⟨g, i * 3 + 2, none⟩ = some (.int .i64 x.c) := ⟨h.cell (j := 0) hx rfl, h.cell (j := 1) hx rfl, h.cell (j := 2) hx rfl⟩
theorem packStep_some {out : List Run} {x : ID} {k : Nat} {r : Run} (hg : growAt out x = some k) (hk : out[k]? = some r) : packStep out x = out.set k r.up := by
  have hkl : k < out.length := (List.getElem?_eq_some_iff.1 hk).1
  unfold packStep
  rw [hg]
  apply List.ext_getElem?
  intro i
  show (out.modify k Run.up)[i]? = _
  rw [modify_get hk, List.getElem?_set]
  by_cases h : k = i
  · subst h; simp [hkl]
  · simp [h]
/-- where Pack's loop stands -/
def PackRel (w : World) (g cap mb : Nat) (S : List ID) (rv iv : Value) (wr : World) : Prop :=
  ∃ (v : Value) (n : Nat) (kvs : List (ID × Value)), v = rv ∧ iv = .int .i64 n ∧ n ≤ S.length ∧ wr.ownsRow w.heap.size 77 3 v (packL (S.take n)).length (runE.flat (packL (S.take n))) ∧ MapK idK wr mb kvs ∧ GrowsOk kvs (packL (S.take n)) ∧ OwnAt idE wr 39 g cap S ∧ Kept (fun _ => False) w wr
theorem Kept.newer {w w1 w2 : World} {b : Nat} (h : Kept (fun _ => False) w w1) (k : Kept (· = b) w1 w2) (hb : w.heap.size ≤ b) : Kept (fun _ => False) w w2 := h.trans k fun i hi e => by omega
end Go.Proofs.YtaaeomapbigfgaaGreat.St
