/- Maps with keys of whatever kind, told as lists of entries. A document in memory: who stands behind whom. cmp.Compare, cmp.Or; stamp.Compare, is, After; the document's. -/
import Derived.Test.YtlafodnaifghcaaK5
import Derived.WalkKit
import Derived.Test.YtlafodnaifghcaaK3
import Derived.Test.YtlafodnaifghcaaK6
import Derived.Test.YtlafodnaifghcaaChecked
import Derived.Test.YtlafodnaifghcaaK1
import Derived.BigQuiet
import Derived.Deep.QuietTactic
import Derived.Deep.RegionHeld3
import Derived.WalkSpells
import Derived.Lib.Hide
import Derived.Lib.SliceRun
namespace Go.Proofs.Ytlafodnaifghcaa
open Go.RowKit

/-- how a key stands: what the model's look for it gives -/
structure KeyE (P : Program) (kt : TypeId) (κ : Type) [DecidableEq κ] where
  enc : κ → Value
  check : ∀ (e : Bool) (k : κ) (w : World), (Instr.checkKey e 10000 kt (enc k)).run P w = .ok () w
  now : ∀ (k x : κ) (d : TypeDesc), P.underlying kt = some d → Instr.sameNow d (enc k) (enc x) = none ∨ Instr.sameNow d (enc k) (enc x) = some (decide (k = x))
  ask : ∀ (k x : κ) (w : World), (Op.equal kt (enc k) (enc x)).run P w = .ok (decide (k = x)) w
  bits : ∀ k, Instr.sameBits 10000 (enc k) (enc k) = true
  und : ∃ d, P.underlying kt = some d
section
variable {κ : Type} [DecidableEq κ]
def getK (kvs : List (κ × Value)) (k : κ) : Option Value := (kvs.find? fun x => decide (x.1 = k)).map (·.2)
def putK : List (κ × Value) → κ → Value → List (κ × Value)
  | [], k, v => [(k, v)]
  | x :: r, k, v => if x.1 = k then (k, v) :: r else x :: putK r k v
def delK : List (κ × Value) → κ → List (κ × Value)
  | [], _ => []
  | x :: r, k => if x.1 = k then r else x :: delK r k
def findK : List (κ × Value) → κ → Nat → Option (Nat × Value)
  | [], _, _ => none
  | x :: r, k, i => if x.1 = k then some (i, x.2) else findK r k (i + 1)
theorem findK_get (kvs : List (κ × Value)) (k : κ) : ∀ i, (findK kvs k i).map (·.2) = getK kvs k := by
  induction kvs with
  | nil => intro i; rfl
  | cons x r ih =>
    intro i
    by_cases h : x.1 = k
    · simp [findK, getK, h]
    · have := ih (i + 1)
      simp only [getK] at this
      simp [findK, getK, h, this]
theorem findK_spec (kvs : List (κ × Value)) (k : κ) : ∀ i n v, findK kvs k i = some (n, v) → i ≤ n ∧ ∃ x, kvs[n - i]? = some x ∧ x.1 = k ∧ x.2 = v := by
  induction kvs with
  | nil => intro i n v h; simp [findK] at h
  | cons x r ih =>
    intro i n v h
    by_cases hx : x.1 = k
    · simp [findK, hx] at h
      obtain ⟨rfl, rfl⟩ := h
      exact ⟨Nat.le_refl _, x, by simp, hx, rfl⟩
    · simp [findK, hx] at h
      obtain ⟨h1, y, h2, h3, h4⟩ := ih _ _ _ h
      exact ⟨by omega, y, by rw [show n - i = (n - (i + 1)) + 1 by omega]; simpa using h2, h3, h4⟩
theorem putK_found (kvs : List (κ × Value)) (k : κ) (v : Value) : ∀ i n u, findK kvs k i = some (n, u) → putK kvs k v = kvs.set (n - i) (k, v) := by
  induction kvs with
  | nil => intro i n u h; simp [findK] at h
  | cons x r ih =>
    intro i n u h
    by_cases hx : x.1 = k
    · simp [findK, hx] at h
      obtain ⟨rfl, _⟩ := h
      simp [putK, hx]
    · simp [findK, hx] at h
      have := findK_spec r k _ _ _ h
      rw [show n - i = (n - (i + 1)) + 1 by omega]
      simp [putK, hx, ih _ _ _ h]
theorem putK_none (kvs : List (κ × Value)) (k : κ) (v : Value) : ∀ i, findK kvs k i = none → putK kvs k v = kvs ++ [(k, v)] := by
  induction kvs with
  | nil => intro i h; rfl
  | cons x r ih =>
    intro i h
    by_cases hx : x.1 = k
    · simp [findK, hx] at h
    · simp [findK, hx] at h
      simp [putK, hx, ih _ h]
theorem delK_found (kvs : List (κ × Value)) (k : κ) : ∀ i n u, findK kvs k i = some (n, u) → delK kvs k = kvs.eraseIdx (n - i) := by
  induction kvs with
  | nil => intro i n u h; simp [findK] at h
  | cons x r ih =>
    intro i n u h
    by_cases hx : x.1 = k
    · simp [findK, hx] at h
      obtain ⟨rfl, _⟩ := h
      simp [delK, hx]
    · simp [findK, hx] at h
      have := findK_spec r k _ _ _ h
      rw [show n - i = (n - (i + 1)) + 1 by omega]
      simp [delK, hx, ih _ _ _ h]
theorem delK_none (kvs : List (κ × Value)) (k : κ) : ∀ i, findK kvs k i = none → delK kvs k = kvs := by
  induction kvs with
  | nil => intro i h; rfl
  | cons x r ih =>
    intro i h
    by_cases hx : x.1 = k
    · simp [findK, hx] at h
    · simp [findK, hx] at h
      simp [delK, hx, ih _ h]
theorem findK_none_iff (kvs : List (κ × Value)) (k : κ) (i : Nat) : findK kvs k i = none ↔ getK kvs k = none := by
  rw [← findK_get kvs k i]; cases findK kvs k i <;> simp
theorem getK_put (kvs : List (κ × Value)) (k x : κ) (v : Value) : getK (putK kvs k v) x = if k = x then some v else getK kvs x := by
  induction kvs with
  | nil => by_cases h : k = x <;> simp [putK, getK, h]
  | cons y r ih =>
    unfold putK
    by_cases hy : y.1 = k
    · rw [if_pos hy]
      by_cases h : k = x
      · simp [getK, h]
      · have : ¬ y.1 = x := fun e => h (hy.symm.trans e)
        simp [getK, h, this]
    · rw [if_neg hy]
      by_cases hyx : y.1 = x
      · have : ¬ k = x := fun e => hy (hyx.trans e.symm)
        simp [getK, hyx, this]
      · unfold getK at ih ⊢
        rw [List.find?_cons_of_neg (by simpa using hyx), ih, List.find?_cons_of_neg (by simpa using hyx)]
/-- no key twice -/
def KeysOk (kvs : List (κ × Value)) : Prop := (kvs.map (·.1)).Nodup
theorem getK_none {kvs : List (κ × Value)} {x : κ} : getK kvs x = none ↔ x ∉ kvs.map (·.1) := by
  induction kvs with
  | nil => simp [getK]
  | cons y r ih =>
    by_cases h : y.1 = x
    · simp [getK, h]
    · unfold getK at ih ⊢
      rw [List.find?_cons_of_neg (by simpa using h), ih]
      simp only [List.map_cons, List.mem_cons, not_or]
      exact ⟨fun h1 => ⟨fun e => h e.symm, h1⟩, fun h1 => h1.2⟩
theorem KeysOk.put {kvs : List (κ × Value)} (h : KeysOk kvs) (k : κ) (v : Value) : KeysOk (putK kvs k v) := by
  unfold KeysOk at h ⊢
  induction kvs with
  | nil => simp [putK]
  | cons y r ih =>
    simp only [List.map_cons, List.nodup_cons] at h
    unfold putK
    by_cases hy : y.1 = k
    · rw [if_pos hy]; simp only [List.map_cons, List.nodup_cons]; rw [← hy]; exact h
    · rw [if_neg hy]
      simp only [List.map_cons, List.nodup_cons]
      refine ⟨?_, ih h.2⟩
      rw [← getK_none, getK_put, if_neg (fun e => hy e.symm), getK_none]
      exact h.1
theorem getK_del {kvs : List (κ × Value)} (h : KeysOk kvs) (k x : κ) : getK (delK kvs k) x = if k = x then none else getK kvs x := by
  unfold KeysOk at h
  induction kvs with
  | nil => simp [delK, getK]
  | cons y r ih =>
    simp only [List.map_cons, List.nodup_cons] at h
    unfold delK
    by_cases hy : y.1 = k
    · rw [if_pos hy]
      by_cases hx : k = x
      · rw [if_pos hx, getK_none, ← hx, ← hy]; exact h.1
      · rw [if_neg hx]
        have : ¬ y.1 = x := fun e => hx (hy.symm.trans e)
        unfold getK
        rw [List.find?_cons_of_neg (by simpa using this)]
    · rw [if_neg hy]
      by_cases hyx : y.1 = x
      · have : ¬ k = x := fun e => hy (hyx.trans e.symm)
        simp [getK, hyx, this]
      · have := ih h.2
        unfold getK at this ⊢
        rw [List.find?_cons_of_neg (by simpa using hyx), this, List.find?_cons_of_neg (by simpa using hyx)]
theorem KeysOk.del {kvs : List (κ × Value)} (h : KeysOk kvs) (k : κ) : KeysOk (delK kvs k) := by
  unfold KeysOk at h ⊢
  have : (delK kvs k).map (·.1) |>.Sublist (kvs.map (·.1)) := by
    refine List.Sublist.map _ ?_
    clear h
    induction kvs with
    | nil => exact List.Sublist.refl _
    | cons y r ih =>
      unfold delK
      split
      · exact List.sublist_cons_self _ _
      · exact ih.cons_cons _
  exact this.nodup h

/-- block b is a map of these entries, in their order -/
def MapK {P : Program} {kt : TypeId} (K : KeyE P kt κ) (w : World) (b : Nat) (kvs : List (κ × Value)) : Prop :=
  ∃ es clk, w.heap[b]? = some (.map es clk) ∧ es.toList.map (fun e => (e.key, e.val)) = kvs.map (fun x => (K.enc x.1, x.2))
variable {P : Program} {w : World} {T kt et : TypeId} {K : KeyE P kt κ} {b : Nat} {kvs : List (κ × Value)} {k : κ}
theorem run_findAsking : ∀ (l : List MapEntry) (kvs : List (κ × Value)) (i : Nat), l.map (fun e => (e.key, e.val)) = kvs.map (fun x => (K.enc x.1, x.2)) → (Instr.findAsking kt (K.enc k) l i).run P w = .ok (findK kvs k i) w := by
  intro l
  induction l with
  | nil => intro kvs i h; cases kvs with | nil => simp [Instr.findAsking, findK] | cons x r => simp at h
  | cons e l ih =>
    intro kvs i h
    cases kvs with
    | nil => simp at h
    | cons x r =>
      simp only [List.map_cons, List.cons.injEq, Prod.mk.injEq] at h
      obtain ⟨⟨h1, h2⟩, h3⟩ := h
      have ha := K.ask k x.1 w
      rw [← h1] at ha
      by_cases hx : x.1 = k
      · simp [Instr.findAsking, ha, hx, findK, h2]
      · have hx' : ¬ k = x.1 := fun e => hx e.symm
        simp [Instr.findAsking, ha, hx, hx', findK, ih r (i + 1) h3]
theorem findNow_any {d : TypeDesc} (hd : P.underlying kt = some d) : ∀ (l : List MapEntry) (kvs : List (κ × Value)) (i : Nat), l.map (fun e => (e.key, e.val)) = kvs.map (fun x => (K.enc x.1, x.2)) →
    Instr.findNow d (K.enc k) l i = none ∨ Instr.findNow d (K.enc k) l i = some (findK kvs k i) := by
  intro l
  induction l with
  | nil => intro kvs i h; cases kvs with | nil => exact .inr rfl | cons x r => simp at h
  | cons e l ih =>
    intro kvs i h
    cases kvs with
    | nil => simp at h
    | cons x r =>
      simp only [List.map_cons, List.cons.injEq, Prod.mk.injEq] at h
      obtain ⟨⟨h1, h2⟩, h3⟩ := h
      have hn := K.now k x.1 d hd
      rw [← h1] at hn
      rcases hn with hn | hn
      · left; simp [Instr.findNow, hn]
      · by_cases hx : x.1 = k
        · right; simp [Instr.findNow, hn, hx, findK, h2]
        · have hx' : ¬ k = x.1 := fun e => hx e.symm
          rcases ih r (i + 1) h3 with h4 | h4
          · left; simp [Instr.findNow, hn, hx', h4]
          · right; simp [Instr.findNow, hn, hx, hx', findK, h4]
theorem run_findKey_any {es : List MapEntry} (he : es.map (fun e => (e.key, e.val)) = kvs.map (fun x => (K.enc x.1, x.2))) : (Instr.findKey kt (K.enc k) es).run P w = .ok (findK kvs k 0) w := by
  obtain ⟨d, hd⟩ := K.und
  rcases findNow_any (k := k) hd es kvs 0 he with h | h
  · simp [Instr.findKey, run_underlying hd, h, run_findAsking es kvs 0 he]
  · simp [Instr.findKey, run_underlying hd, h]
theorem run_lookupK_ok (ht : P.underlying T = some (.map kt et)) (hm : MapK K w b kvs) {v : Value} (hv : getK kvs k = some v) :
    (Instr.lookup T (.map (some b)) (K.enc k) true).run P w = .ok (.tuple #[v, .bool true]) w := by
  obtain ⟨es, clk, hb, he⟩ := hm
  have hg := findK_get kvs k 0
  rw [hv] at hg
  obtain ⟨⟨n, u⟩, hf, rfl⟩ : ∃ x, findK kvs k 0 = some x ∧ x.2 = v := by cases h : findK kvs k 0 <;> simp_all
  simp [Instr.lookup, run_underlying ht, MapKept.run_getObj_map hb, Result.andThen, K.check, run_findKey_any he, hf]
theorem run_lookupK_none_ok (ht : P.underlying T = some (.map kt et)) (hm : MapK K w b kvs) (hv : getK kvs k = none) {z : Value} (hz : (zeroValue et).run P w = .ok z w) :
    (Instr.lookup T (.map (some b)) (K.enc k) true).run P w = .ok (.tuple #[z, .bool false]) w := by
  obtain ⟨es, clk, hb, he⟩ := hm
  simp [Instr.lookup, run_underlying ht, MapKept.run_getObj_map hb, Result.andThen, K.check, run_findKey_any he, (findK_none_iff kvs k 0).2 hv, hz]
theorem run_lookupK (ht : P.underlying T = some (.map kt et)) (hm : MapK K w b kvs) {v : Value} (hv : getK kvs k = some v) :
    (Instr.lookup T (.map (some b)) (K.enc k) false).run P w = .ok v w := by
  obtain ⟨es, clk, hb, he⟩ := hm
  have hg := findK_get kvs k 0
  rw [hv] at hg
  obtain ⟨⟨n, u⟩, hf, rfl⟩ : ∃ x, findK kvs k 0 = some x ∧ x.2 = v := by cases h : findK kvs k 0 <;> simp_all
  simp [Instr.lookup, run_underlying ht, MapKept.run_getObj_map hb, Result.andThen, K.check, run_findKey_any he, hf]
theorem run_lookupK_none (ht : P.underlying T = some (.map kt et)) (hm : MapK K w b kvs) (hv : getK kvs k = none) {z : Value} (hz : (zeroValue et).run P w = .ok z w) :
    (Instr.lookup T (.map (some b)) (K.enc k) false).run P w = .ok z w := by
  obtain ⟨es, clk, hb, he⟩ := hm
  simp [Instr.lookup, run_underlying ht, MapKept.run_getObj_map hb, Result.andThen, K.check, run_findKey_any he, (findK_none_iff kvs k 0).2 hv, hz]
theorem MapK.lt (h : MapK K w b kvs) : b < w.heap.size := by
  obtain ⟨es, clk, h1, h2⟩ := h
  rcases Nat.lt_or_ge b w.heap.size with h | h
  · exact h
  · simp [Array.getElem?_eq_none h] at h1
theorem MapK.keep {S : Nat → Prop} {w' : World} (h : MapK K w b kvs) (hk : Kept S w w') (hb : ¬ S b) : MapK K w' b kvs := by
  have hlt := h.lt
  obtain ⟨es, clk, h1, h2⟩ := h
  exact ⟨es, clk, by rw [hk.block b hlt hb]; exact h1, h2⟩
theorem MapK.ne_blk {g : Nat} {t : TypeId} {cs : Array Value} (h : MapK K w b kvs) (hb : Blk w g t cs) : g ≠ b := by
  rintro rfl
  obtain ⟨es, clk, h1, h2⟩ := h
  unfold Blk at hb
  rw [hb] at h1
  cases h1
theorem MapK.made (w : World) : MapK K (w.alloc (.map #[] 0)) w.heap.size [] := ⟨#[], 0, heap_alloc_new w _, rfl⟩
theorem kept_obj (w : World) (b : Nat) (o : Obj) : Kept (· = b) w { w with heap := w.heap.setIfInBounds b o } := ⟨rfl, rfl, rfl, by simp, fun i _ hn => by
  show (w.heap.setIfInBounds b o)[i]? = _
  rw [Array.getElem?_setIfInBounds_ne (fun e => hn e.symm)]⟩
theorem run_updateK (ht : P.underlying T = some (.map kt et)) (hm : MapK K w b kvs) (v : Value) :
    ∃ w', (Instr.mapUpdate T (.map (some b)) (K.enc k) v).run P w = .ok () w' ∧ MapK K w' b (putK kvs k v) ∧ Kept (· = b) w w' := by
  have hlt := hm.lt
  obtain ⟨es, clk, hb, he⟩ := hm
  cases hf : findK kvs k 0 with
  | none =>
    refine ⟨{ w with heap := w.heap.setIfInBounds b (.map (es.push { key := K.enc k, val := v, born := clk }) (clk + 1)) }, ?_, ⟨es.push { key := K.enc k, val := v, born := clk }, clk + 1, ?_, ?_⟩, kept_obj _ _ _⟩
    · simp [Instr.mapUpdate, run_underlying ht, MapKept.run_getObj_map hb, Result.andThen, K.check, run_findKey_any he, hf, MapKept.run_setObj_map _ hb]
    · simp [hlt]
    · rw [putK_none kvs k v 0 hf]; simp [he]
  | some x =>
    obtain ⟨n, u⟩ := x
    obtain ⟨-, x, hx, rfl, rfl⟩ := findK_spec kvs k 0 n u hf
    have hn : n < kvs.length := by
      rcases Nat.lt_or_ge n kvs.length with h | h
      · exact h
      · rw [List.getElem?_eq_none (by omega)] at hx; cases hx
    have hlen : es.size = kvs.length := by have := congrArg List.length he; simpa using this
    have hkey : es[n].key = K.enc x.1 := by
      have h0 := congrArg (·[n]?) he
      simp only [List.getElem?_map] at h0
      rw [Nat.sub_zero] at hx
      rw [hx] at h0
      simp [Array.getElem?_eq_getElem (show n < es.size by omega)] at h0
      exact h0.1
    refine ⟨{ w with heap := w.heap.setIfInBounds b (.map (es.modify n fun e => { e with key := K.enc x.1, val := v }) clk) }, ?_, ⟨es.modify n fun e => { e with key := K.enc x.1, val := v }, clk, ?_, ?_⟩, kept_obj _ _ _⟩
    · simp [Instr.mapUpdate, run_underlying ht, MapKept.run_getObj_map hb, Result.andThen, K.check, run_findKey_any he, hf, MapKept.run_setObj_map _ hb, Array.getElem?_eq_getElem (show n < es.size by omega), hkey, Instr.keyThatStays, K.bits]
    · simp [hlt]
    · rw [putK_found kvs x.1 v 0 n _ hf]
      apply List.ext_getElem?
      intro i
      have h0 := congrArg (·[i]?) he
      simp only [List.getElem?_map] at h0 ⊢
      rw [Nat.sub_zero, Array.getElem?_toList, Array.getElem?_modify, List.getElem?_set]
      rw [Array.getElem?_toList] at h0
      by_cases hi : n = i
      · subst hi
        simp [hn, Array.getElem?_eq_getElem (show n < es.size by omega)]
      · simp [hi, h0]
theorem run_deleteK (ht : P.underlying T = some (.map kt et)) (ty : TypeId) (hm : MapK K w b kvs) :
    ∃ w', (Builtin.delete_ #[T, kt] ty #[.map (some b), K.enc k]).run P w = .ok (.tuple #[]) w' ∧ MapK K w' b (delK kvs k) ∧ Kept (· = b) w w' := by
  have hlt := hm.lt
  obtain ⟨es, clk, hb, he⟩ := hm
  cases hf : findK kvs k 0 with
  | none =>
    refine ⟨{ w with heap := w.heap.setIfInBounds b (.map es clk) }, ?_, ⟨es, clk, ?_, ?_⟩, kept_obj _ _ _⟩
    · simp [Builtin.delete_, run_underlying ht, MapKept.run_getObj_map hb, Result.andThen, K.check, run_findKey_any he, hf, MapKept.run_setObj_map _ hb]
    · simp [hlt]
    · rw [delK_none kvs k 0 hf]; exact he
  | some x =>
    obtain ⟨n, u⟩ := x
    refine ⟨{ w with heap := w.heap.setIfInBounds b (.map (es.eraseIdxIfInBounds n) clk) }, ?_, ⟨es.eraseIdxIfInBounds n, clk, ?_, ?_⟩, kept_obj _ _ _⟩
    · simp [Builtin.delete_, run_underlying ht, MapKept.run_getObj_map hb, Result.andThen, K.check, run_findKey_any he, hf, MapKept.run_setObj_map _ hb]
    · simp [hlt]
    · rw [delK_found kvs k 0 n _ hf, Array.toList_eraseIdxIfInBounds, Nat.sub_zero, Go.ChangeMaps.map_eraseIdx, he, ← Go.ChangeMaps.map_eraseIdx]
end
end Go.Proofs.Ytlafodnaifghcaa
namespace Go.Proofs.Ytlafodnaifghcaa.Tr
open Go.RowKit Go.Proofs.Ytlafodnaifghcaa.St
/-- a slice's three numbers -/
structure Rw where
  a : Option Addr
  n : Nat
  c : Nat
def Rw.v (s : Rw) : Value := .slice s.a s.n s.c
def rowE : Enc Rw := ⟨1, fun s => [s.v], fun _ => rfl, by decide, fun s u hu => by rw [List.mem_singleton.1 hu]; rfl⟩
def ptrE : Enc Nat := ⟨1, fun b => [.pointer (some ⟨b, 0, none⟩)], fun _ => rfl, by decide, fun s u hu => by rw [List.mem_singleton.1 hu]; rfl⟩
def ndC (n : Nd) : List Value := [.int .i64 n.id.t, .int .i64 n.id.s, .int .i64 n.ref.t, .int .i64 n.ref.s, .int .i32 n.rune, .int .i64 n.st]
def nodeE : Enc Nd := ⟨6, ndC, fun _ => rfl, by decide, fun n u hu => by
  simp [ndC] at hu
  rcases hu with rfl | rfl | rfl | rfl | rfl | rfl <;> rfl⟩
/-- the rows of those that stand behind -/
structure Shape (w : World) (g : Nat) (L : List Nd) (A : ID → Nat) (S : ID → Rw) : Prop where
  root : w.cell? ⟨g, 0, none⟩ = some (S ID.zero).v
  beh : ∀ n ∈ L, w.cell? ⟨A n.id, 6, none⟩ = some (S n.id).v
  row : ∀ r, r = ID.zero ∨ r ∈ ids L → SlAt ptrE w (S r).v ((kids L r).map (fun n => A n.id))
theorem ex_least {P : Nat → Prop} : ∀ n, P n → ∃ m, P m ∧ ∀ k, P k → m ≤ k := by
  intro n
  induction n using Nat.strongRecOn with
  | ind n ih =>
    intro hn
    by_cases h : ∃ k, k < n ∧ P k
    · obtain ⟨k, hk, hP⟩ := h
      exact ih k hk hP
    · exact ⟨n, hn, fun k hk => Nat.le_of_not_lt fun hl => h ⟨k, hl, hk⟩⟩
open Classical in
/-- the least number of a kind; 0: there is none -/
noncomputable def least (P : Nat → Prop) : Nat := if h : ∃ m, P m ∧ ∀ k, P k → m ≤ k then h.choose else 0
theorem least_spec {P : Nat → Prop} (h : ∃ n, P n) : P (least P) := by
  obtain ⟨n, hn⟩ := h
  have h2 := ex_least n hn
  unfold least
  rw [dif_pos h2]
  exact h2.choose_spec.1
theorem least_le {P : Nat → Prop} {n : Nat} (h : P n) : least P ≤ n := by
  have h2 := ex_least n h
  unfold least
  rw [dif_pos h2]
  exact h2.choose_spec.2 n h
/-- a slice of pointers without its first -/
theorem SlAt.rest {w : World} {b o n c : Nat} {x : Nat} {L : List Nat} (h : SlAt ptrE w (.slice (some ⟨b, o, none⟩) (n + 1) c) (x :: L)) {o' : Nat} (ho : L = [] ∨ o' = o + 1) : SlAt ptrE w (.slice (some ⟨b, o', none⟩) n (c - 1)) L := by
  rcases h with ⟨h, _⟩ | ⟨y, d, h, h1, h2, h3, h4⟩
  · cases h
  · injection h with e1 e2 e3
    injection e1 with e1
    subst e1 e3
    have hn : n = L.length := by simpa using e2
    refine .inr ⟨⟨b, o', none⟩, c - 1, by rw [hn], by rw [List.length_cons] at h1; omega, by omega, fun _ => rfl, fun i z hz j u hu => ?_⟩
    rcases ho with rfl | rfl
    · simp at hz
    · have h5 := h4 (i + 1) z (by simpa using hz) j u hu
      have hk : ptrE.k = 1 := rfl
      rw [hk] at h5 ⊢
      show w.cell? ⟨b, o + 1 + (i * 1 + j), none⟩ = some u
      rw [show o + 1 + (i * 1 + j) = o + ((i + 1) * 1 + j) by omega]
      exact h5
end Go.Proofs.Ytlafodnaifghcaa.Tr
namespace Go.Proofs.Ytlafodnaifghcaa.St
open Go.RowKit

theorem nan_any (x : Int) (w : World) : Calls Try.prog 87 #[.int .i64 x] w fun e w' => e = .returned (.bool false) ∧ w = w' := by
  go_enter Try.func87, Try.ntmps87
  go_wp2
  go_ret
  exact ⟨by simp, rfl⟩
theorem ccmp_any (x y : Int) (w : World) : Calls Try.prog 76 #[.int .i64 x, .int .i64 y] w fun e w' => e = .returned (.int .i64 (cmpI x y)) ∧ w = w' := by
  by_cases h : x < y
  · have e : cmpI x y = -1 := by unfold cmpI; rw [if_pos h]
    rw [e]
    go_enter Try.func76, Try.ntmps76
    go_wp2_with (go_at_call 87; refine (nan_any _ _).mono ?_; rintro e w' ⟨rfl, rfl⟩)
    go_ret
    exact ⟨rfl, rfl⟩
  · by_cases h2 : y < x
    · have e : cmpI x y = 1 := by unfold cmpI; rw [if_neg h, if_pos h2]
      rw [e]
      go_enter Try.func76, Try.ntmps76
      go_wp2_with (go_at_call 87; refine (nan_any _ _).mono ?_; rintro e w' ⟨rfl, rfl⟩)
      go_ret
      exact ⟨rfl, rfl⟩
    · have e : cmpI x y = 0 := by unfold cmpI; rw [if_neg h, if_neg h2]
      rw [e]
      go_enter Try.func76, Try.ntmps76
      go_wp2_with (go_at_call 87; refine (nan_any _ _).mono ?_; rintro e w' ⟨rfl, rfl⟩)
      go_ret
      exact ⟨rfl, rfl⟩
theorem or2 (g : Nat) (x y : Int) (w : World) (h0 : w.cell? ⟨g, 0, none⟩ = some (.int .i64 x)) (h1 : w.cell? ⟨g, 1, none⟩ = some (.int .i64 y)) :
    Calls Try.prog 75 #[.slice (some ⟨g, 0, none⟩) 2 2] w fun e w' => e = .returned (.int .i64 (orL [x, y])) ∧ w = w' := by
  go_enter Try.func75, Try.ntmps75
  go_wp2
  go_loop [8] (fun i => ∃ k : Nat, k ≤ 2 ∧ i = .int .i64 k ∧ orL [x, y] = orL ([x, y].drop k)) (fun i => 2 - (intOf i).toNat)
  case atStart => exact ⟨0, by omega, rfl, rfl⟩
  case round =>
    obtain ⟨k, hk, rfl, he⟩ := hrel
    have E := Lib.hid he
    clear he
    rcases (show k = 0 ∨ k = 1 ∨ k = 2 by omega) with rfl | rfl | rfl
    · by_cases hx : x = 0
      · subst hx
        go_wp2
        go_round
        case rel => exact ⟨1, by omega, rfl, rfl⟩
        case measure => simp [intOf]
      · have hxb : (x != 0) = true := by simpa using hx
        go_wp2
        go_ret
        exact ⟨by simp [orL, hx], rfl⟩
    · by_cases hy : y = 0
      · subst hy
        go_wp2
        go_round
        case rel => exact ⟨2, by omega, rfl, E.out.trans (by simp [orL])⟩
        case measure => simp [intOf]
      · have hyb : (y != 0) = true := by simpa using hy
        go_wp2
        go_ret
        exact ⟨by rw [E.out]; simp [orL, hy], rfl⟩
    · go_wp2
      go_ret
      exact ⟨by rw [E.out]; rfl, rfl⟩

def idV (a : ID) : Value := .agg #[.int .i64 a.t, .int .i64 a.s]
def runV (r : Run) : Value := .agg #[.int .i64 r.id.t, .int .i64 r.id.s, .int .i64 r.c]
theorem compare_any (a b : ID) (w : World) : Calls Try.prog 53 #[idV a, idV b] w fun e w' => e = .returned (.int .i64 (a.cmp b)) ∧ Grew w w' := by
  obtain ⟨at_, as_⟩ := a
  obtain ⟨bt, bs⟩ := b
  show Calls _ _ #[.agg #[.int .i64 at_, .int .i64 as_], .agg #[.int .i64 bt, .int .i64 bs]] _ _
  unfold ID.cmp
  have b1 := Blk.alloc (Blk.new w 27 #[.int .i64 at_, .int .i64 as_]) (.cells #[.int .i64 bt, .int .i64 bs] 27)
  have b2 := Blk.new (w.alloc (.cells #[.int .i64 at_, .int .i64 as_] 27)) 27 #[.int .i64 bt, .int .i64 bs]
  have c1 : _ = some (Value.int .i64 at_) := b1.cell' (i := 0) rfl
  have c2 : _ = some (Value.int .i64 as_) := b1.cell' (i := 1) rfl
  have c3 : _ = some (Value.int .i64 bt) := b2.cell' (i := 0) rfl
  have c4 : _ = some (Value.int .i64 bs) := b2.cell' (i := 1) rfl
  have hg := Grew.alloc (Grew.alloc (Grew.refl w) (.cells #[.int .i64 at_, .int .i64 as_] 27)) (.cells #[.int .i64 bt, .int .i64 bs] 27)
  rw [World.size_alloc] at c3 c4
  clear b1 b2
  go_enter Try.func53, Try.ntmps53
  go_wp2_with fail
  obtain ⟨W, hW, hz⟩ : ∃ W, ((w.alloc (.cells #[.int .i64 at_, .int .i64 as_] 27)).alloc (.cells #[.int .i64 bt, .int .i64 bs] 27)) = W ∧ W.heap.size = w.heap.size + 2 := ⟨_, rfl, by simp⟩
  rw [hW] at c1 c2 c3 c4 hg ⊢
  clear hW
  have Z := Lib.hid hz
  clear hz
  go_region_held3 (fun w' => w'.cell? ⟨w.heap.size, 0, none⟩ = some (.int .i64 at_) ∧ w'.cell? ⟨w.heap.size, 1, none⟩ = some (.int .i64 as_) ∧ w'.cell? ⟨w.heap.size + 1, 0, none⟩ = some (.int .i64 bt) ∧ w'.cell? ⟨w.heap.size + 1, 1, none⟩ = some (.int .i64 bs)) (first | exact ⟨c1, c2, c3, c4⟩ | exact ⟨Lib.cell?_alloc_some _ c1, Lib.cell?_alloc_some _ c2, Lib.cell?_alloc_some _ c3, Lib.cell?_alloc_some _ c4⟩)
    (first
      | (go_simp; go_at_call 76; refine (ccmp_any _ _ _).mono ?_; rintro e w' ⟨rfl, rfl⟩)
      | (go_simp; go_at_call 75; refine (or2 W.heap.size (cmpI at_ bt) (cmpI as_ bs) (W.alloc (.cells #[.int .i64 (cmpI at_ bt), .int .i64 (cmpI as_ bs)] 3)).drew ((Blk.new W 3 #[.int .i64 (cmpI at_ bt), .int .i64 (cmpI as_ bs)]).cell' (i := 0) rfl) ((Blk.new W 3 #[.int .i64 (cmpI at_ bt), .int .i64 (cmpI as_ bs)]).cell' (i := 1) rfl)).mono ?_; rintro e w' ⟨rfl, rfl⟩))
  go_wp2
  go_ret
  exact ⟨rfl, (hg.alloc _).drew⟩

/-! ### is, IsID, After -/
theorem is_core (t s : Int) (w : World) : Calls Try.prog 59 #[.agg #[.int .i64 t, .int .i64 s]] w fun e w' => e = .returned (.bool (isB ⟨t, s⟩)) ∧ Grew w w' := by
  by_cases h1 : 1 ≤ t
  · by_cases h2 : t ≤ 2147483647
    · by_cases h3 : 1 ≤ s
      · by_cases h4 : s ≤ 16
        · have e : isB ⟨t, s⟩ = true := by simp [isB, ID.Is, h1, h2, h3, h4]
          rw [e]
          go_enter Try.func59, Try.ntmps59
          go_wp2
          go_ret
          exact ⟨rfl, (Grew.refl w).alloc _⟩
        · have e : isB ⟨t, s⟩ = false := by simp [isB, ID.Is, h4]
          rw [e]
          go_enter Try.func59, Try.ntmps59
          go_wp2
          go_ret
          exact ⟨rfl, (Grew.refl w).alloc _⟩
      · have e : isB ⟨t, s⟩ = false := by simp [isB, ID.Is, h3]
        rw [e]
        go_enter Try.func59, Try.ntmps59
        go_wp2
        go_ret
        exact ⟨rfl, (Grew.refl w).alloc _⟩
    · have e : isB ⟨t, s⟩ = false := by simp [isB, ID.Is, h2]
      rw [e]
      go_enter Try.func59, Try.ntmps59
      go_wp2
      go_ret
      exact ⟨rfl, (Grew.refl w).alloc _⟩
  · have e : isB ⟨t, s⟩ = false := by simp [isB, ID.Is, h1]
    rw [e]
    go_enter Try.func59, Try.ntmps59
    go_wp2
    go_ret
    exact ⟨rfl, (Grew.refl w).alloc _⟩
theorem is_any (a : ID) (w : World) : Calls Try.prog 59 #[idV a] w fun e w' => e = .returned (.bool (isB a)) ∧ Grew w w' := is_core a.t a.s w
theorem is1_any (a : ID) (w : World) : Calls Try.prog 58 #[idV a] w fun e w' => e = .returned (.bool (!isB a)) ∧ Grew w w' := by
  obtain ⟨t, s⟩ := a
  show Calls _ _ #[.agg #[.int .i64 t, .int .i64 s]] _ _
  have hg := Grew.alloc (Grew.refl w) (.cells #[.int .i64 t, .int .i64 s] 27)
  generalize hb : isB ⟨t, s⟩ = b
  have hc := is_core t s (w.alloc (.cells #[.int .i64 t, .int .i64 s] 27))
  rw [hb] at hc
  clear hb
  go_enter Try.func58, Try.ntmps58
  go_wp2_with fail
  refine hc.mono ?_
  rintro e w' ⟨rfl, hg2⟩
  go_wp2_with fail
  go_ret
  exact ⟨rfl, hg.trans hg2⟩
theorem isB_true {a : ID} (h : isB a = true) : a.Is := by simpa [isB] using h
theorem after_core (t s n : Int) (hn : -9223372036854775808 ≤ n) (hn2 : n ≤ 9223372036854775807) (w : World) : Calls Try.prog 37 #[.agg #[.int .i64 t, .int .i64 s], .int .i64 n] w fun e w' => e = .returned (idV (ID.after ⟨t, s⟩ n)) ∧ Grew w w' := by
  have hg := Grew.alloc (Grew.alloc (Grew.refl w) (.cells #[.int .i64 t, .int .i64 s] 27)) (.cells #[.int .i64 0, .int .i64 0] 27)
  have hb0 := Blk.alloc (Blk.new w 27 #[.int .i64 t, .int .i64 s]) (.cells #[.int .i64 0, .int .i64 0] 27)
  have hb1 := Blk.new (w.alloc (.cells #[.int .i64 t, .int .i64 s] 27)) 27 #[.int .i64 0, .int .i64 0]
  rw [World.size_alloc] at hb1
  have hc := is_core t s ((w.alloc (.cells #[.int .i64 t, .int .i64 s] 27)).alloc (.cells #[.int .i64 0, .int .i64 0] 27))
  have H0 := Lib.hid hb0
  have H1 := Lib.hid hb1
  clear hb0 hb1
  cases hb : isB ⟨t, s⟩
  · have e : ID.after ⟨t, s⟩ n = ID.zero := by unfold ID.after; rw [if_neg]; intro h; simp [isB, h.1] at hb
    rw [e]
    rw [hb] at hc
    clear hb e
    go_enter Try.func37, Try.ntmps37
    go_wp2_with fail
    refine hc.mono ?_
    rintro e w' ⟨rfl, hg2⟩
    have hb1 := hg2.box H1.out
    have c0 : _ = some (Value.int .i64 0) := hb1.cell' (i := 0) rfl
    have c1 : _ = some (Value.int .i64 0) := hb1.cell' (i := 1) rfl
    have f0 := hb1.frozen 0
    have f1 := hb1.frozen 1
    have G := Lib.hid (hg.trans hg2)
    clear hg hg2 hb1 hc
    go_wp2_with fail
    refine bodyPost_ret (v := .agg #[.int .i64 0, .int .i64 0]) (by simp [results, Try.results37, go_sem, c0, c1]) rfl ⟨rfl, (G.out.setCell (by simp) _).setCell (by simp) _⟩
  · have hI := isB_true hb
    unfold ID.Is at hI
    obtain ⟨i1, i2, i3, i4⟩ := hI
    simp only at i1 i2 i3 i4
    have hIs := Lib.hid (isB_true hb)
    rw [hb] at hc
    clear hb
    by_cases hx : 0 ≤ n ∧ n ≤ 2147483647 - t
    · obtain ⟨x1, x2⟩ := hx
      have e : ID.after ⟨t, s⟩ n = ⟨t + n, s⟩ := by unfold ID.after; rw [if_pos ⟨hIs.out, x1, x2⟩]
      rw [e]
      clear e
      go_enter Try.func37, Try.ntmps37
      go_wp2_with fail
      refine hc.mono ?_
      rintro e w' ⟨rfl, hg2⟩
      have hb0 := hg2.box H0.out
      have hb1 := hg2.box H1.out
      have d0 : _ = some (Value.int .i64 t) := hb0.cell' (i := 0) rfl
      have d1 : _ = some (Value.int .i64 s) := hb0.cell' (i := 1) rfl
      have e0 := hb0.frozen 0
      have e1 := hb0.frozen 1
      have c0 : _ = some (Value.int .i64 0) := hb1.cell' (i := 0) rfl
      have c1 : _ = some (Value.int .i64 0) := hb1.cell' (i := 1) rfl
      have f0 := hb1.frozen 0
      have f1 := hb1.frozen 1
      have G := Lib.hid (hg.trans hg2)
      clear hg hg2 hb1 hb0 hc
      go_wp2_with fail
      refine bodyPost_ret (v := .agg #[.int .i64 (t + n), .int .i64 s]) (by simp [results, Try.results37, go_sem, c0, c1]) rfl ⟨rfl, ((G.out.setCell (by simp) _).setCell (by simp) _).setCell (by simp) _⟩
    · have e : ID.after ⟨t, s⟩ n = ID.zero := by unfold ID.after; rw [if_neg]; intro h; exact hx ⟨h.2.1, h.2.2⟩
      rw [e]
      clear e
      rcases (show n < 0 ∨ (0 ≤ n ∧ 2147483647 - t < n) by omega) with x1 | ⟨x1, x2⟩
      all_goals
        go_enter Try.func37, Try.ntmps37
        go_wp2_with fail
        refine hc.mono ?_
        rintro e w' ⟨rfl, hg2⟩
        have hb0 := hg2.box H0.out
        have hb1 := hg2.box H1.out
        have d0 : _ = some (Value.int .i64 t) := hb0.cell' (i := 0) rfl
        have c0 : _ = some (Value.int .i64 0) := hb1.cell' (i := 0) rfl
        have c1 : _ = some (Value.int .i64 0) := hb1.cell' (i := 1) rfl
        have f0 := hb1.frozen 0
        have f1 := hb1.frozen 1
        have G := Lib.hid (hg.trans hg2)
        clear hg hg2 hb1 hb0 hc
        go_wp2_with fail
        refine bodyPost_ret (v := .agg #[.int .i64 0, .int .i64 0]) (by simp [results, Try.results37, go_sem, c0, c1]) rfl ⟨rfl, (G.out.setCell (by simp) _).setCell (by simp) _⟩
theorem after_any (a : ID) (n : Int) (hn : -9223372036854775808 ≤ n) (hn2 : n ≤ 9223372036854775807) (w : World) : Calls Try.prog 37 #[idV a, .int .i64 n] w fun e w' => e = .returned (idV (a.after n)) ∧ Grew w w' := after_core a.t a.s n hn hn2 w
end Go.Proofs.Ytlafodnaifghcaa.St
