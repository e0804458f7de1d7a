/- Maps with keys of whatever kind, told as lists of entries. -/
import Derived.Test.YtlafodnaifghcaaT5
import Derived.WalkKit
namespace Go.Proofs.Ytlafodnaifghcaa
open Go.RowKit

/-- how a key stands: what the model's look for it gives -/
structure KeyE (P : Program) (kt : TypeId) (κ : Type) [DecidableEq κ] where
  enc : κ → Value
  check : ∀ (e : Bool) (k : κ) (w : World), (Instr.checkKey e 10000 kt (enc k)).run P w = .ok () w
  now : ∀ (k x : κ) (d : TypeDesc), P.underlying kt = some d → Instr.sameNow d (enc k) (enc x) = none ∨ Instr.sameNow d (enc k) (enc x) = some (decide (k = x))
  ask : ∀ (k x : κ) (w : World), (Op.equal kt (enc k) (enc x)).run P w = .ok (decide (k = x)) w
  bits : ∀ k, Instr.sameBits 10000 (enc k) (enc k) = true
  und : ∃ d, P.underlying kt = some d
section
variable {κ : Type} [DecidableEq κ]
def getK (kvs : List (κ × Value)) (k : κ) : Option Value := (kvs.find? fun x => decide (x.1 = k)).map (·.2)
def putK : List (κ × Value) → κ → Value → List (κ × Value)
  | [], k, v => [(k, v)]
  | x :: r, k, v => if x.1 = k then (k, v) :: r else x :: putK r k v
def delK : List (κ × Value) → κ → List (κ × Value)
  | [], _ => []
  | x :: r, k => if x.1 = k then r else x :: delK r k
def findK : List (κ × Value) → κ → Nat → Option (Nat × Value)
  | [], _, _ => none
  | x :: r, k, i => if x.1 = k then some (i, x.2) else findK r k (i + 1)
theorem findK_get (kvs : List (κ × Value)) (k : κ) : ∀ i, (findK kvs k i).map (·.2) = getK kvs k := by
  induction kvs with
  | nil => intro i; rfl
  | cons x r ih =>
    intro i
    by_cases h : x.1 = k
    · simp [findK, getK, h]
    · have := ih (i + 1)
      simp only [getK] at this
      simp [findK, getK, h, this]
theorem findK_spec (kvs : List (κ × Value)) (k : κ) : ∀ i n v, findK kvs k i = some (n, v) → i ≤ n ∧ ∃ x, kvs[n - i]? = some x ∧ x.1 = k ∧ x.2 = v := by
  induction kvs with
  | nil => intro i n v h; simp [findK] at h
  | cons x r ih =>
    intro i n v h
    by_cases hx : x.1 = k
    · simp [findK, hx] at h
      obtain ⟨rfl, rfl⟩ := h
      exact ⟨Nat.le_refl _, x, by simp, hx, rfl⟩
    · simp [findK, hx] at h
      obtain ⟨h1, y, h2, h3, h4⟩ := ih _ _ _ h
      exact ⟨by omega, y, by rw [show n - i = (n - (i + 1)) + 1 by omega]; simpa using h2, h3, h4⟩
theorem putK_found (kvs : List (κ × Value)) (k : κ) (v : Value) : ∀ i n u, findK kvs k i = some (n, u) → putK kvs k v = kvs.set (n - i) (k, v) := by
  induction kvs with
  | nil => intro i n u h; simp [findK] at h
  | cons x r ih =>
    intro i n u h
    by_cases hx : x.1 = k
    · simp [findK, hx] at h
      obtain ⟨rfl, _⟩ := h
      simp [putK, hx]
    · simp [findK, hx] at h
      have := findK_spec r k _ _ _ h
      rw [show n - i = (n - (i + 1)) + 1 by omega]
      simp [putK, hx, ih _ _ _ h]
theorem putK_none (kvs : List (κ × Value)) (k : κ) (v : Value) : ∀ i, findK kvs k i = none → putK kvs k v = kvs ++ [(k, v)] := by
  induction kvs with
  | nil => intro i h; rfl
  | cons x r ih =>
    intro i h
    by_cases hx : x.1 = k
    · simp [findK, hx] at h
    · simp [findK, hx] at h
      simp [putK, hx, ih _ h]
theorem delK_found (kvs : List (κ × Value)) (k : κ) : ∀ i n u, findK kvs k i = some (n, u) → delK kvs k = kvs.eraseIdx (n - i) := by
  induction kvs with
  | nil => intro i n u h; simp [findK] at h
  | cons x r ih =>
    intro i n u h
    by_cases hx : x.1 = k
    · simp [findK, hx] at h
      obtain ⟨rfl, _⟩ := h
      simp [delK, hx]
    · simp [findK, hx] at h
      have := findK_spec r k _ _ _ h
      rw [show n - i = (n - (i + 1)) + 1 by omega]
      simp [delK, hx, ih _ _ _ h]
theorem delK_none (kvs : List (κ × Value)) (k : κ) : ∀ i, findK kvs k i = none → delK kvs k = kvs := by
  induction kvs with
  | nil => intro i h; rfl
  | cons x r ih =>
    intro i h
    by_cases hx : x.1 = k
    · simp [findK, hx] at h
    · simp [findK, hx] at h
      simp [delK, hx, ih _ h]
theorem findK_none_iff (kvs : List (κ × Value)) (k : κ) (i : Nat) : findK kvs k i = none ↔ getK kvs k = none := by
  rw [← findK_get kvs k i]; cases findK kvs k i <;> simp
theorem getK_put (kvs : List (κ × Value)) (k x : κ) (v : Value) : getK (putK kvs k v) x = if k = x then some v else getK kvs x := by
  induction kvs with
  | nil => by_cases h : k = x <;> simp [putK, getK, h]
  | cons y r ih =>
    unfold putK
    by_cases hy : y.1 = k
    · rw [if_pos hy]
      by_cases h : k = x
      · simp [getK, h]
      · have : ¬ y.1 = x := fun e => h (hy.symm.trans e)
        simp [getK, h, this]
    · rw [if_neg hy]
      by_cases hyx : y.1 = x
      · have : ¬ k = x := fun e => hy (hyx.trans e.symm)
        simp [getK, hyx, this]
      · unfold getK at ih ⊢
        rw [List.find?_cons_of_neg (by simpa using hyx), ih, List.find?_cons_of_neg (by simpa using hyx)]
/-- no key twice -/
def KeysOk (kvs : List (κ × Value)) : Prop := (kvs.map (·.1)).Nodup
theorem getK_none {kvs : List (κ × Value)} {x : κ} : getK kvs x = none ↔ x ∉ kvs.map (·.1) := by
  induction kvs with
  | nil => simp [getK]
  | cons y r ih =>
    by_cases h : y.1 = x
    · simp [getK, h]
    · unfold getK at ih ⊢
      rw [List.find?_cons_of_neg (by simpa using h), ih]
      simp only [List.map_cons, List.mem_cons, not_or]
      exact ⟨fun h1 => ⟨fun e => h e.symm, h1⟩, fun h1 => h1.2⟩
theorem KeysOk.put {kvs : List (κ × Value)} (h : KeysOk kvs) (k : κ) (v : Value) : KeysOk (putK kvs k v) := by
  unfold KeysOk at h ⊢
  induction kvs with
  | nil => simp [putK]
  | cons y r ih =>
    simp only [List.map_cons, List.nodup_cons] at h
    unfold putK
    by_cases hy : y.1 = k
    · rw [if_pos hy]; simp only [List.map_cons, List.nodup_cons]; rw [← hy]; exact h
    · rw [if_neg hy]
      simp only [List.map_cons, List.nodup_cons]
      refine ⟨?_, ih h.2⟩
      rw [← getK_none, getK_put, if_neg (fun e => hy e.symm), getK_none]
      exact h.1
theorem getK_del {kvs : List (κ × Value)} (h : KeysOk kvs) (k x : κ) : getK (delK kvs k) x = if k = x then none else getK kvs x := by
  unfold KeysOk at h
  induction kvs with
  | nil => simp [delK, getK]
  | cons y r ih =>
    simp only [List.map_cons, List.nodup_cons] at h
    unfold delK
    by_cases hy : y.1 = k
    · rw [if_pos hy]
      by_cases hx : k = x
      · rw [if_pos hx, getK_none, ← hx, ← hy]; exact h.1
      · rw [if_neg hx]
        have : ¬ y.1 = x := fun e => hx (hy.symm.trans e)
        unfold getK
        rw [List.find?_cons_of_neg (by simpa using this)]
    · rw [if_neg hy]
      by_cases hyx : y.1 = x
      · have : ¬ k = x := fun e => hy (hyx.trans e.symm)
        simp [getK, hyx, this]
      · have := ih h.2
        unfold getK at this ⊢
        rw [List.find?_cons_of_neg (by simpa using hyx), this, List.find?_cons_of_neg (by simpa using hyx)]
theorem KeysOk.del {kvs : List (κ × Value)} (h : KeysOk kvs) (k : κ) : KeysOk (delK kvs k) := by
  unfold KeysOk at h ⊢
  have : (delK kvs k).map (·.1) |>.Sublist (kvs.map (·.1)) := by
    refine List.Sublist.map _ ?_
    clear h
    induction kvs with
    | nil => exact List.Sublist.refl _
    | cons y r ih =>
      unfold delK
      split
      · exact List.sublist_cons_self _ _
      · exact ih.cons_cons _
  exact this.nodup h

/-- block b is a map of these entries, in their order -/
def MapK {P : Program} {kt : TypeId} (K : KeyE P kt κ) (w : World) (b : Nat) (kvs : List (κ × Value)) : Prop :=
  ∃ es clk, w.heap[b]? = some (.map es clk) ∧ es.toList.map (fun e => (e.key, e.val)) = kvs.map (fun x => (K.enc x.1, x.2))
variable {P : Program} {w : World} {T kt et : TypeId} {K : KeyE P kt κ} {b : Nat} {kvs : List (κ × Value)} {k : κ}
theorem run_findAsking : ∀ (l : List MapEntry) (kvs : List (κ × Value)) (i : Nat), l.map (fun e => (e.key, e.val)) = kvs.map (fun x => (K.enc x.1, x.2)) → (Instr.findAsking kt (K.enc k) l i).run P w = .ok (findK kvs k i) w := by
  intro l
  induction l with
  | nil => intro kvs i h; cases kvs with | nil => simp [Instr.findAsking, findK] | cons x r => simp at h
  | cons e l ih =>
    intro kvs i h
    cases kvs with
    | nil => simp at h
    | cons x r =>
      simp only [List.map_cons, List.cons.injEq, Prod.mk.injEq] at h
      obtain ⟨⟨h1, h2⟩, h3⟩ := h
      have ha := K.ask k x.1 w
      rw [← h1] at ha
      by_cases hx : x.1 = k
      · simp [Instr.findAsking, ha, hx, findK, h2]
      · have hx' : ¬ k = x.1 := fun e => hx e.symm
        simp [Instr.findAsking, ha, hx, hx', findK, ih r (i + 1) h3]
theorem findNow_any {d : TypeDesc} (hd : P.underlying kt = some d) : ∀ (l : List MapEntry) (kvs : List (κ × Value)) (i : Nat), l.map (fun e => (e.key, e.val)) = kvs.map (fun x => (K.enc x.1, x.2)) →
    Instr.findNow d (K.enc k) l i = none ∨ Instr.findNow d (K.enc k) l i = some (findK kvs k i) := by
  intro l
  induction l with
  | nil => intro kvs i h; cases kvs with | nil => exact .inr rfl | cons x r => simp at h
  | cons e l ih =>
    intro kvs i h
    cases kvs with
    | nil => simp at h
    | cons x r =>
      simp only [List.map_cons, List.cons.injEq, Prod.mk.injEq] at h
      obtain ⟨⟨h1, h2⟩, h3⟩ := h
      have hn := K.now k x.1 d hd
      rw [← h1] at hn
      rcases hn with hn | hn
      · left; simp [Instr.findNow, hn]
      · by_cases hx : x.1 = k
        · right; simp [Instr.findNow, hn, hx, findK, h2]
        · have hx' : ¬ k = x.1 := fun e => hx e.symm
          rcases ih r (i + 1) h3 with h4 | h4
          · left; simp [Instr.findNow, hn, hx', h4]
          · right; simp [Instr.findNow, hn, hx, hx', findK, h4]
theorem run_findKey_any {es : List MapEntry} (he : es.map (fun e => (e.key, e.val)) = kvs.map (fun x => (K.enc x.1, x.2))) : (Instr.findKey kt (K.enc k) es).run P w = .ok (findK kvs k 0) w := by
  obtain ⟨d, hd⟩ := K.und
  rcases findNow_any (k := k) hd es kvs 0 he with h | h
  · simp [Instr.findKey, run_underlying hd, h, run_findAsking es kvs 0 he]
  · simp [Instr.findKey, run_underlying hd, h]
theorem run_lookupK_ok (ht : P.underlying T = some (.map kt et)) (hm : MapK K w b kvs) {v : Value} (hv : getK kvs k = some v) :
    (Instr.lookup T (.map (some b)) (K.enc k) true).run P w = .ok (.tuple #[v, .bool true]) w := by
  obtain ⟨es, clk, hb, he⟩ := hm
  have hg := findK_get kvs k 0
  rw [hv] at hg
  obtain ⟨⟨n, u⟩, hf, rfl⟩ : ∃ x, findK kvs k 0 = some x ∧ x.2 = v := by cases h : findK kvs k 0 <;> simp_all
  simp [Instr.lookup, run_underlying ht, MapKept.run_getObj_map hb, Result.andThen, K.check, run_findKey_any he, hf]
theorem run_lookupK_none_ok (ht : P.underlying T = some (.map kt et)) (hm : MapK K w b kvs) (hv : getK kvs k = none) {z : Value} (hz : (zeroValue et).run P w = .ok z w) :
    (Instr.lookup T (.map (some b)) (K.enc k) true).run P w = .ok (.tuple #[z, .bool false]) w := by
  obtain ⟨es, clk, hb, he⟩ := hm
  simp [Instr.lookup, run_underlying ht, MapKept.run_getObj_map hb, Result.andThen, K.check, run_findKey_any he, (findK_none_iff kvs k 0).2 hv, hz]
theorem run_lookupK (ht : P.underlying T = some (.map kt et)) (hm : MapK K w b kvs) {v : Value} (hv : getK kvs k = some v) :
    (Instr.lookup T (.map (some b)) (K.enc k) false).run P w = .ok v w := by
  obtain ⟨es, clk, hb, he⟩ := hm
  have hg := findK_get kvs k 0
  rw [hv] at hg
  obtain ⟨⟨n, u⟩, hf, rfl⟩ : ∃ x, findK kvs k 0 = some x ∧ x.2 = v := by cases h : findK kvs k 0 <;> simp_all
  simp [Instr.lookup, run_underlying ht, MapKept.run_getObj_map hb, Result.andThen, K.check, run_findKey_any he, hf]
theorem run_lookupK_none (ht : P.underlying T = some (.map kt et)) (hm : MapK K w b kvs) (hv : getK kvs k = none) {z : Value} (hz : (zeroValue et).run P w = .ok z w) :
    (Instr.lookup T (.map (some b)) (K.enc k) false).run P w = .ok z w := by
  obtain ⟨es, clk, hb, he⟩ := hm
  simp [Instr.lookup, run_underlying ht, MapKept.run_getObj_map hb, Result.andThen, K.check, run_findKey_any he, (findK_none_iff kvs k 0).2 hv, hz]
theorem MapK.lt (h : MapK K w b kvs) : b < w.heap.size := by
  obtain ⟨es, clk, h1, h2⟩ := h
  rcases Nat.lt_or_ge b w.heap.size with h | h
  · exact h
  · simp [Array.getElem?_eq_none h] at h1
theorem MapK.keep {S : Nat → Prop} {w' : World} (h : MapK K w b kvs) (hk : Kept S w w') (hb : ¬ S b) : MapK K w' b kvs := by
  have hlt := h.lt
  obtain ⟨es, clk, h1, h2⟩ := h
  exact ⟨es, clk, by rw [hk.block b hlt hb]; exact h1, h2⟩
theorem MapK.ne_blk {g : Nat} {t : TypeId} {cs : Array Value} (h : MapK K w b kvs) (hb : Blk w g t cs) : g ≠ b := by
  rintro rfl
  obtain ⟨es, clk, h1, h2⟩ := h
  unfold Blk at hb
  rw [hb] at h1
  cases h1
theorem MapK.made (w : World) : MapK K (w.alloc (.map #[] 0)) w.heap.size [] := ⟨#[], 0, heap_alloc_new w _, rfl⟩
theorem kept_obj (w : World) (b : Nat) (o : Obj) : Kept (· = b) w { w with heap := w.heap.setIfInBounds b o } := ⟨rfl, rfl, rfl, by simp, fun i _ hn => by
  show (w.heap.setIfInBounds b o)[i]? = _
  rw [Array.getElem?_setIfInBounds_ne (fun e => hn e.symm)]⟩
theorem run_updateK (ht : P.underlying T = some (.map kt et)) (hm : MapK K w b kvs) (v : Value) :
    ∃ w', (Instr.mapUpdate T (.map (some b)) (K.enc k) v).run P w = .ok () w' ∧ MapK K w' b (putK kvs k v) ∧ Kept (· = b) w w' := by
  have hlt := hm.lt
  obtain ⟨es, clk, hb, he⟩ := hm
  cases hf : findK kvs k 0 with
  | none =>
    refine ⟨{ w with heap := w.heap.setIfInBounds b (.map (es.push { key := K.enc k, val := v, born := clk }) (clk + 1)) }, ?_, ⟨es.push { key := K.enc k, val := v, born := clk }, clk + 1, ?_, ?_⟩, kept_obj _ _ _⟩
    · simp [Instr.mapUpdate, run_underlying ht, MapKept.run_getObj_map hb, Result.andThen, K.check, run_findKey_any he, hf, MapKept.run_setObj_map _ hb]
    · simp [hlt]
    · rw [putK_none kvs k v 0 hf]; simp [he]
  | some x =>
    obtain ⟨n, u⟩ := x
    obtain ⟨-, x, hx, rfl, rfl⟩ := findK_spec kvs k 0 n u hf
    have hn : n < kvs.length := by
      rcases Nat.lt_or_ge n kvs.length with h | h
      · exact h
      · rw [List.getElem?_eq_none (by omega)] at hx; cases hx
    have hlen : es.size = kvs.length := by have := congrArg List.length he; simpa using this
    have hkey : es[n].key = K.enc x.1 := by
      have h0 := congrArg (·[n]?) he
      simp only [List.getElem?_map] at h0
      rw [Nat.sub_zero] at hx
      rw [hx] at h0
      simp [Array.getElem?_eq_getElem (show n < es.size by omega)] at h0
      exact h0.1
    refine ⟨{ w with heap := w.heap.setIfInBounds b (.map (es.modify n fun e => { e with key := K.enc x.1, val := v }) clk) }, ?_, ⟨es.modify n fun e => { e with key := K.enc x.1, val := v }, clk, ?_, ?_⟩, kept_obj _ _ _⟩
    · simp [Instr.mapUpdate, run_underlying ht, MapKept.run_getObj_map hb, Result.andThen, K.check, run_findKey_any he, hf, MapKept.run_setObj_map _ hb, Array.getElem?_eq_getElem (show n < es.size by omega), hkey, Instr.keyThatStays, K.bits]
    · simp [hlt]
    · rw [putK_found kvs x.1 v 0 n _ hf]
      apply List.ext_getElem?
      intro i
      have h0 := congrArg (·[i]?) he
      simp only [List.getElem?_map] at h0 ⊢
      rw [Nat.sub_zero, Array.getElem?_toList, Array.getElem?_modify, List.getElem?_set]
      rw [Array.getElem?_toList] at h0
      by_cases hi : n = i
      · subst hi
        simp [hn, Array.getElem?_eq_getElem (show n < es.size by omega)]
      · simp [hi, h0]
theorem run_deleteK (ht : P.underlying T = some (.map kt et)) (ty : TypeId) (hm : MapK K w b kvs) :
    ∃ w', (Builtin.delete_ #[T, kt] ty #[.map (some b), K.enc k]).run P w = .ok (.tuple #[]) w' ∧ MapK K w' b (delK kvs k) ∧ Kept (· = b) w w' := by
  have hlt := hm.lt
  obtain ⟨es, clk, hb, he⟩ := hm
  cases hf : findK kvs k 0 with
  | none =>
    refine ⟨{ w with heap := w.heap.setIfInBounds b (.map es clk) }, ?_, ⟨es, clk, ?_, ?_⟩, kept_obj _ _ _⟩
    · simp [Builtin.delete_, run_underlying ht, MapKept.run_getObj_map hb, Result.andThen, K.check, run_findKey_any he, hf, MapKept.run_setObj_map _ hb]
    · simp [hlt]
    · rw [delK_none kvs k 0 hf]; exact he
  | some x =>
    obtain ⟨n, u⟩ := x
    refine ⟨{ w with heap := w.heap.setIfInBounds b (.map (es.eraseIdxIfInBounds n) clk) }, ?_, ⟨es.eraseIdxIfInBounds n, clk, ?_, ?_⟩, kept_obj _ _ _⟩
    · simp [Builtin.delete_, run_underlying ht, MapKept.run_getObj_map hb, Result.andThen, K.check, run_findKey_any he, hf, MapKept.run_setObj_map _ hb]
    · simp [hlt]
    · rw [delK_found kvs k 0 n _ hf, Array.toList_eraseIdxIfInBounds, Nat.sub_zero, Go.ChangeMaps.map_eraseIdx, he, ← Go.ChangeMaps.map_eraseIdx]
end
end Go.Proofs.Ytlafodnaifghcaa
