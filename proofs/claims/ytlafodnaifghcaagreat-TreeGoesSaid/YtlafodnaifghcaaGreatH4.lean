/- Words for memory: a block known whole; what a step keeps; maps keyed by numbers. They speak of no program of their own. Words for slices of structs in memory, and for maps with any keys. They speak of no program of their own. Slices whose elements are several cells: read (SlAt), and owned (OwnAt). -/
import Derived.WalkKit
import Derived.Deep.Draws
import Derived.Sort.Grow
import Derived.Laws.StructEq
import Derived.Laws.AppendOwn
import Derived.OwnWalk
import Derived.Lib.SliceRun
namespace Go.Proofs.YtlafodnaifghcaaGreat
open Go.RowKit

/-- block g is just the cells cs of element type t, none frozen -/
def Blk (w : World) (g : Nat) (t : TypeId) (cs : Array Value) : Prop := w.heap[g]? = some (.cells cs t (0, 0))
section
variable {w w' : World} {g : Nat} {t : TypeId} {cs : Array Value}
theorem Blk.lt (h : Blk w g t cs) : g < w.heap.size := by
  rcases Nat.lt_or_ge g w.heap.size with hlt | hge
  · exact hlt
  · unfold Blk at h; rw [Array.getElem?_eq_none hge] at h; cases h
theorem Blk.cell (h : Blk w g t cs) (i : Nat) : w.cell? ⟨g, i, none⟩ = cs[i]? := cell_of_row w g i cs t (0, 0) h
theorem Blk.cell' (h : Blk w g t cs) {i : Nat} {v : Value} (hv : cs[i]? = some v) : w.cell? ⟨g, i, none⟩ = some v := (h.cell i).trans hv
theorem Blk.frozen (h : Blk w g t cs) (i : Nat) : w.frozen? ⟨g, i, none⟩ = false := by
  unfold Blk at h
  simp [World.frozen?, h]
theorem Blk.new (w : World) (t : TypeId) (cs : Array Value) : Blk (w.alloc (.cells cs t)) w.heap.size t cs := heap_alloc_new w _
theorem Blk.drewN (h : Blk w g t cs) (n : Nat) : Blk (w.drewN n) g t cs := h
theorem Blk.alloc (h : Blk w g t cs) (o : Obj) : Blk (w.alloc o) g t cs := (Below.heap_alloc w o g h.lt).trans h
theorem Blk.set_ (h : Blk w g t cs) (i : Nat) (u : Value) : Blk (w.setCell ⟨g, i, none⟩ u) g t (cs.setIfInBounds i u) := by
  unfold Blk at h ⊢
  simp [World.setCell, Array.getElem?_modify, h]
theorem Blk.far (h : Blk w g t cs) {p : Addr} (hp : g ≠ p.block) (u : Value) : Blk (w.setCell p u) g t cs := (Below.heap_setCell w p u g hp).trans h
theorem Blk.ne_ {g' : Nat} {t' : TypeId} {cs' : Array Value} (h : Blk w g t cs) (h' : Blk w g' t' cs') (hne : t ≠ t') : g ≠ g' := by
  rintro rfl
  unfold Blk at h h'
  rw [h] at h'
  injection h' with h'
  injection h' with _ ht
  exact hne ht
theorem Blk.inj {t' : TypeId} {cs' : Array Value} (h : Blk w g t cs) (h' : Blk w g t' cs') : cs = cs' := by
  unfold Blk at h h'
  rw [h] at h'
  injection h' with h'
  injection h' with hc _
end

theorem own_blk_ne {w : World} {g : Nat} {t : TypeId} {cs : Array Value} {base : Nat} {e : TypeId} {size n : Nat} {v : Value} {xs : List Value} (h : w.ownsRow base e size v n xs) (hg : Blk w g t cs) (hne : e ≠ t) : v.ownBlock ≠ some g := by
  rcases h.2 with ⟨rfl, _⟩ | ⟨g', cap, cur, rfl, _, hh, _⟩
  · simp [Value.ownBlock]
  · intro he
    have : g' = g := by simpa [Value.ownBlock] using he
    subst this
    exact Blk.ne_ (t := e) hh hg hne rfl
theorem Blk.grown {w w' : World} {g : Nat} {t : TypeId} {cs : Array Value} {row : Option Nat} (h : Blk w g t cs) (hb : w.grownBy w' row) (hg : row ≠ some g) : Blk w' g t cs := (hb.block g h.lt (fun e => hg e.symm)).trans h

/-- what stood outside S stands; the streams are as they were -/
structure Kept (S : Nat → Prop) (w w' : World) : Prop where
  os : w'.os = w.os
  tape : w'.tape = w.tape
  output : w'.output = w.output
  size : w.heap.size ≤ w'.heap.size
  block : ∀ k, k < w.heap.size → ¬ S k → w'.heap[k]? = w.heap[k]?
section
variable {S S' : Nat → Prop} {w w' w'' : World}
theorem Kept.refl (S : Nat → Prop) (w : World) : Kept S w w := ⟨rfl, rfl, rfl, Nat.le_refl _, fun _ _ _ => rfl⟩
theorem Kept.trans (h : Kept S w w') (k : Kept S' w' w'') (hs : ∀ i, i < w.heap.size → S' i → S i) : Kept S w w'' :=
  ⟨k.os.trans h.os, k.tape.trans h.tape, k.output.trans h.output, Nat.le_trans h.size k.size,
    fun i hi hn => (k.block i (Nat.lt_of_lt_of_le hi h.size) fun x => hn (hs i hi x)).trans (h.block i hi hn)⟩
theorem Kept.mono (h : Kept S w w') (hs : ∀ i, i < w.heap.size → S i → S' i) : Kept S' w w' :=
  ⟨h.os, h.tape, h.output, h.size, fun i hi hn => h.block i hi fun x => hn (hs i hi x)⟩
theorem Kept.drewN (h : Kept S w w') (n : Nat) : Kept S w (w'.drewN n) := ⟨h.os, h.tape, h.output, h.size, h.block⟩
theorem Kept.drew (h : Kept S w w') : Kept S w w'.drew := ⟨h.os, h.tape, h.output, h.size, h.block⟩
theorem Kept.alloc (h : Kept S w w') (o : Obj) : Kept S w (w'.alloc o) :=
  ⟨h.os, h.tape, h.output, Nat.le_trans h.size (by simp), fun i hi hn => (Below.heap_alloc w' o i (Nat.lt_of_lt_of_le hi h.size)).trans (h.block i hi hn)⟩
theorem Kept.setCell (h : Kept S w w') {p : Addr} (hp : p.block < w.heap.size → S p.block) (u : Value) : Kept S w (w'.setCell p u) :=
  ⟨h.os, h.tape, h.output, by simpa [World.setCell] using h.size, fun i hi hn => (Below.heap_setCell w' p u i (by rintro rfl; exact hn (hp hi))).trans (h.block i hi hn)⟩
theorem Kept.grown {row : Option Nat} (h : Kept S w w') (hg : w'.grownBy w'' row) (hr : ∀ k, row = some k → k < w.heap.size → S k) : Kept S w w'' :=
  ⟨hg.os.trans h.os, hg.tape.trans h.tape, hg.output.trans h.output, Nat.le_trans h.size hg.size,
    fun i hi hn => (hg.block i (Nat.lt_of_lt_of_le hi h.size) (fun e => hn (hr i e.symm hi))).trans (h.block i hi hn)⟩
theorem Kept.blk {g : Nat} {t : TypeId} {cs : Array Value} (h : Kept S w w') (hg : ¬ S g) (hb : Blk w g t cs) : Blk w' g t cs := (h.block g hb.lt hg).trans hb
theorem Kept.below {B : Nat} (h : Kept S w w') (hB : B ≤ w.heap.size) (hs : ∀ i, i < B → ¬ S i) : Below B w w' :=
  ⟨h.os, h.tape, h.output, h.size, fun k hk => h.block k (by omega) (hs k hk)⟩
theorem Kept.of_below {B : Nat} (h : Below B w w') (hs : ∀ i, i < w.heap.size → ¬ S i → i < B) : Kept S w w' :=
  ⟨h.os, h.tape, h.output, h.size, fun k hk hn => h.block k (hs k hk hn)⟩
end

/-! ### maps keyed by int -/
/-- block b is a map whose entries are, in their order, kvs -/
def MapI (w : World) (b : Nat) (kvs : List (Int × Value)) : Prop :=
  ∃ es clk, w.heap[b]? = some (.map es clk) ∧ es.toList.map (fun e => (e.key, e.val)) = kvs.map (fun x => (Value.int .i64 x.1, x.2))
def getI (kvs : List (Int × Value)) (k : Int) : Option Value := (kvs.find? fun x => x.1 == k).map (·.2)
def putI : List (Int × Value) → Int → Value → List (Int × Value)
  | [], k, v => [(k, v)]
  | x :: r, k, v => if x.1 = k then (k, v) :: r else x :: putI r k v
def delI : List (Int × Value) → Int → List (Int × Value)
  | [], _ => []
  | x :: r, k => if x.1 = k then r else x :: delI r k
def findI : List (Int × Value) → Int → Nat → Option (Nat × Value)
  | [], _, _ => none
  | x :: r, k, i => if x.1 = k then some (i, x.2) else findI r k (i + 1)
theorem findI_get (kvs : List (Int × Value)) (k : Int) : ∀ i, (findI kvs k i).map (·.2) = getI kvs k := by
  induction kvs with
  | nil => intro i; rfl
  | cons x r ih =>
    intro i
    by_cases h : x.1 = k
    · simp [findI, getI, h]
    · have := ih (i + 1)
      simp only [getI] at this
      simp [findI, getI, h, this]
theorem findNow_int (k : Int) : ∀ (l : List MapEntry) (kvs : List (Int × Value)) (i : Nat), l.map (fun e => (e.key, e.val)) = kvs.map (fun x => (Value.int .i64 x.1, x.2)) →
    Instr.findNow (.int .i64) (.int .i64 k) l i = some (findI kvs k i) := by
  intro l
  induction l with
  | nil => intro kvs i h; cases kvs with | nil => rfl | cons x r => simp at h
  | cons e l ih =>
    intro kvs i h
    cases kvs with
    | nil => simp at h
    | cons x r =>
      simp only [List.map_cons, List.cons.injEq, Prod.mk.injEq] at h
      obtain ⟨⟨h1, h2⟩, h3⟩ := h
      by_cases hx : x.1 = k
      · subst hx; simp [Instr.findNow, Instr.sameNow, h1, h2, findI]
      · have : (k == x.1) = false := by simpa using fun e : k = x.1 => hx e.symm
        simp [Instr.findNow, Instr.sameNow, h1, findI, hx, this, ih r (i + 1) h3]
theorem findI_spec (kvs : List (Int × Value)) (k : Int) : ∀ i n v, findI kvs k i = some (n, v) → i ≤ n ∧ ∃ x, kvs[n - i]? = some x ∧ x.1 = k ∧ x.2 = v := by
  induction kvs with
  | nil => intro i n v h; simp [findI] at h
  | cons x r ih =>
    intro i n v h
    by_cases hx : x.1 = k
    · simp [findI, hx] at h
      obtain ⟨rfl, rfl⟩ := h
      exact ⟨Nat.le_refl _, x, by simp, hx, rfl⟩
    · simp [findI, hx] at h
      obtain ⟨h1, y, h2, h3, h4⟩ := ih _ _ _ h
      exact ⟨by omega, y, by rw [show n - i = (n - (i + 1)) + 1 by omega]; simpa using h2, h3, h4⟩
theorem putI_found (kvs : List (Int × Value)) (k : Int) (v : Value) : ∀ i n u, findI kvs k i = some (n, u) → putI kvs k v = kvs.set (n - i) (k, v) := by
  induction kvs with
  | nil => intro i n u h; simp [findI] at h
  | cons x r ih =>
    intro i n u h
    by_cases hx : x.1 = k
    · simp [findI, hx] at h
      obtain ⟨rfl, _⟩ := h
      simp [putI, hx]
    · simp [findI, hx] at h
      have := findI_spec r k _ _ _ h
      rw [show n - i = (n - (i + 1)) + 1 by omega]
      simp [putI, hx, ih _ _ _ h]
theorem putI_none (kvs : List (Int × Value)) (k : Int) (v : Value) : ∀ i, findI kvs k i = none → putI kvs k v = kvs ++ [(k, v)] := by
  induction kvs with
  | nil => intro i h; rfl
  | cons x r ih =>
    intro i h
    by_cases hx : x.1 = k
    · simp [findI, hx] at h
    · simp [findI, hx] at h
      simp [putI, hx, ih _ h]
theorem delI_found (kvs : List (Int × Value)) (k : Int) : ∀ i n u, findI kvs k i = some (n, u) → delI kvs k = kvs.eraseIdx (n - i) := by
  induction kvs with
  | nil => intro i n u h; simp [findI] at h
  | cons x r ih =>
    intro i n u h
    by_cases hx : x.1 = k
    · simp [findI, hx] at h
      obtain ⟨rfl, _⟩ := h
      simp [delI, hx]
    · simp [findI, hx] at h
      have := findI_spec r k _ _ _ h
      rw [show n - i = (n - (i + 1)) + 1 by omega]
      simp [delI, hx, ih _ _ _ h]
theorem delI_none (kvs : List (Int × Value)) (k : Int) : ∀ i, findI kvs k i = none → delI kvs k = kvs := by
  induction kvs with
  | nil => intro i h; rfl
  | cons x r ih =>
    intro i h
    by_cases hx : x.1 = k
    · simp [findI, hx] at h
    · simp [findI, hx] at h
      simp [delI, hx, ih _ h]
theorem findI_none_iff (kvs : List (Int × Value)) (k : Int) (i : Nat) : findI kvs k i = none ↔ getI kvs k = none := by
  rw [← findI_get kvs k i]; cases findI kvs k i <;> simp

section
variable {P : Program} {w : World} {T kt et : TypeId} {b : Nat} {kvs : List (Int × Value)} {k : Int}
theorem run_findKey_int (hk : P.underlying kt = some (.int .i64)) {es : List MapEntry} (he : es.map (fun e => (e.key, e.val)) = kvs.map (fun x => (Value.int .i64 x.1, x.2))) :
    (Instr.findKey kt (.int .i64 k) es).run P w = .ok (findI kvs k 0) w := by
  simp [Instr.findKey, run_underlying hk, findNow_int k es kvs 0 he]
theorem run_checkKey_int (hk : P.underlying kt = some (.int .i64)) (e : Bool) : (Instr.checkKey e 10000 kt (.int .i64 k)).run P w = .ok () w := by
  have h : ∀ d : Nat, (Instr.checkKey e (d + 1) kt (.int .i64 k)).run P w = .ok () w := fun d => by simp [Instr.checkKey, run_underlying hk]
  exact h 9999
theorem run_lookupI (ht : P.underlying T = some (.map kt et)) (hk : P.underlying kt = some (.int .i64)) (hm : MapI w b kvs) {v : Value} (hv : getI kvs k = some v) :
    (Instr.lookup T (.map (some b)) (.int .i64 k) false).run P w = .ok v w := by
  obtain ⟨es, clk, hb, he⟩ := hm
  have hg := findI_get kvs k 0
  rw [hv] at hg
  obtain ⟨⟨n, u⟩, hf, rfl⟩ : ∃ x, findI kvs k 0 = some x ∧ x.2 = v := by cases h : findI kvs k 0 <;> simp_all
  simp [Instr.lookup, run_underlying ht, MapKept.run_getObj_map hb, Result.andThen, run_checkKey_int hk, run_findKey_int hk he, hf]
theorem run_lookupI_none (ht : P.underlying T = some (.map kt et)) (hk : P.underlying kt = some (.int .i64)) (hm : MapI w b kvs) (hv : getI kvs k = none) {z : Value} (hz : (zeroValue et).run P w = .ok z w) :
    (Instr.lookup T (.map (some b)) (.int .i64 k) false).run P w = .ok z w := by
  obtain ⟨es, clk, hb, he⟩ := hm
  simp [Instr.lookup, run_underlying ht, MapKept.run_getObj_map hb, Result.andThen, run_checkKey_int hk, run_findKey_int hk he, (findI_none_iff kvs k 0).2 hv, hz]
theorem run_lookupI_nil (ht : P.underlying T = some (.map kt et)) (hk : P.underlying kt = some (.int .i64)) {z : Value} (hz : (zeroValue et).run P w = .ok z w) :
    (Instr.lookup T (.map none) (.int .i64 k) false).run P w = .ok z w := by
  simp [Instr.lookup, run_underlying ht, run_checkKey_int hk, run_findKey_int (kvs := []) hk (by rfl : ([] : List MapEntry).map _ = _), findI, hz]
theorem run_updateI (ht : P.underlying T = some (.map kt et)) (hk : P.underlying kt = some (.int .i64)) (hm : MapI w b kvs) (v : Value) :
    ∃ w', (Instr.mapUpdate T (.map (some b)) (.int .i64 k) v).run P w = .ok () w' ∧ MapI w' b (putI kvs k v) ∧ Kept (· = b) w w' := by
  obtain ⟨es, clk, hb, he⟩ := hm
  have hlt : b < w.heap.size := by
    rcases Nat.lt_or_ge b w.heap.size with h | h
    · exact h
    · simp [Array.getElem?_eq_none h] at hb
  have kp : ∀ o : Obj, Kept (· = b) w { w with heap := w.heap.setIfInBounds b o } := fun o => ⟨rfl, rfl, rfl, by simp, fun i _ hn => by
    show (w.heap.setIfInBounds b o)[i]? = _
    rw [Array.getElem?_setIfInBounds_ne (fun e => hn e.symm)]⟩
  cases hf : findI kvs k 0 with
  | none =>
    refine ⟨{ w with heap := w.heap.setIfInBounds b (.map (es.push { key := .int .i64 k, val := v, born := clk }) (clk + 1)) }, ?_, ⟨es.push { key := .int .i64 k, val := v, born := clk }, clk + 1, ?_, ?_⟩, kp _⟩
    · simp [Instr.mapUpdate, run_underlying ht, MapKept.run_getObj_map hb, Result.andThen, run_checkKey_int hk, run_findKey_int hk he, hf, MapKept.run_setObj_map _ hb]
    · simp [hlt]
    · rw [putI_none kvs k v 0 hf]; simp [he]
  | some x =>
    obtain ⟨n, u⟩ := x
    obtain ⟨-, x, hx, rfl, rfl⟩ := findI_spec kvs k 0 n u hf
    have hn : n < kvs.length := by
      rcases Nat.lt_or_ge n kvs.length with h | h
      · exact h
      · rw [List.getElem?_eq_none (by omega)] at hx; cases hx
    have hlen : es.size = kvs.length := by have := congrArg List.length he; simpa using this
    have hkey : es[n].key = .int .i64 x.1 := by
      have h0 := congrArg (·[n]?) he
      simp only [List.getElem?_map] at h0
      rw [Nat.sub_zero] at hx
      rw [hx] at h0
      simp [Array.getElem?_eq_getElem (show n < es.size by omega)] at h0
      exact h0.1
    refine ⟨{ w with heap := w.heap.setIfInBounds b (.map (es.modify n fun e => { e with key := .int .i64 x.1, val := v }) clk) }, ?_, ⟨es.modify n fun e => { e with key := .int .i64 x.1, val := v }, clk, ?_, ?_⟩, kp _⟩
    · simp [Instr.mapUpdate, run_underlying ht, MapKept.run_getObj_map hb, Result.andThen, run_checkKey_int hk, run_findKey_int hk he, hf, MapKept.run_setObj_map _ hb, Array.getElem?_eq_getElem (show n < es.size by omega), hkey, Instr.keyThatStays, Instr.sameBits]
    · simp [hlt]
    · rw [putI_found kvs x.1 v 0 n _ hf]
      apply List.ext_getElem?
      intro i
      have h0 := congrArg (·[i]?) he
      simp only [List.getElem?_map] at h0 ⊢
      rw [Nat.sub_zero, Array.getElem?_toList, Array.getElem?_modify, List.getElem?_set]
      rw [Array.getElem?_toList] at h0
      by_cases hi : n = i
      · subst hi
        simp [hn, Array.getElem?_eq_getElem (show n < es.size by omega)]
      · simp [hi, h0]
theorem run_deleteI (ht : P.underlying T = some (.map kt et)) (hk : P.underlying kt = some (.int .i64)) (ty : TypeId) (hm : MapI w b kvs) :
    ∃ w', (Builtin.delete_ #[T, kt] ty #[.map (some b), .int .i64 k]).run P w = .ok (.tuple #[]) w' ∧ MapI w' b (delI kvs k) ∧ Kept (· = b) w w' := by
  obtain ⟨es, clk, hb, he⟩ := hm
  have hlt : b < w.heap.size := by
    rcases Nat.lt_or_ge b w.heap.size with h | h
    · exact h
    · simp [Array.getElem?_eq_none h] at hb
  have kp : ∀ o : Obj, Kept (· = b) w { w with heap := w.heap.setIfInBounds b o } := fun o => ⟨rfl, rfl, rfl, by simp, fun i _ hn => by
    show (w.heap.setIfInBounds b o)[i]? = _
    rw [Array.getElem?_setIfInBounds_ne (fun e => hn e.symm)]⟩
  cases hf : findI kvs k 0 with
  | none =>
    refine ⟨{ w with heap := w.heap.setIfInBounds b (.map es clk) }, ?_, ⟨es, clk, ?_, ?_⟩, kp _⟩
    · simp [Builtin.delete_, run_underlying ht, MapKept.run_getObj_map hb, Result.andThen, run_checkKey_int hk, run_findKey_int hk he, hf, MapKept.run_setObj_map _ hb]
    · simp [hlt]
    · rw [delI_none kvs k 0 hf]; exact he
  | some x =>
    obtain ⟨n, u⟩ := x
    refine ⟨{ w with heap := w.heap.setIfInBounds b (.map (es.eraseIdxIfInBounds n) clk) }, ?_, ⟨es.eraseIdxIfInBounds n, clk, ?_, ?_⟩, kp _⟩
    · simp [Builtin.delete_, run_underlying ht, MapKept.run_getObj_map hb, Result.andThen, run_checkKey_int hk, run_findKey_int hk he, hf, MapKept.run_setObj_map _ hb]
    · simp [hlt]
    · rw [delI_found kvs k 0 n _ hf, Array.toList_eraseIdxIfInBounds, Nat.sub_zero, Go.ChangeMaps.map_eraseIdx, he, ← Go.ChangeMaps.map_eraseIdx]
end
theorem MapI.keep {S : Nat → Prop} {w w' : World} {b : Nat} {kvs : List (Int × Value)} (h : MapI w b kvs) (hk : Kept S w w') (hb : ¬ S b) : MapI w' b kvs := by
  obtain ⟨es, clk, h1, h2⟩ := h
  refine ⟨es, clk, ?_, h2⟩
  rw [hk.block b ?_ hb]; exact h1
  rcases Nat.lt_or_ge b w.heap.size with h | h
  · exact h
  · simp [Array.getElem?_eq_none h] at h1
theorem MapI.lt {w : World} {b : Nat} {kvs : List (Int × Value)} (h : MapI w b kvs) : b < w.heap.size := by
  obtain ⟨es, clk, h1, h2⟩ := h
  rcases Nat.lt_or_ge b w.heap.size with h | h
  · exact h
  · simp [Array.getElem?_eq_none h] at h1
theorem MapI.ne_blk {w : World} {b g : Nat} {kvs : List (Int × Value)} {t : TypeId} {cs : Array Value} (h : MapI w b kvs) (hb : Blk w g t cs) : g ≠ b := by
  rintro rfl
  obtain ⟨es, clk, h1, h2⟩ := h
  unfold Blk at hb
  rw [hb] at h1
  cases h1
end Go.Proofs.YtlafodnaifghcaaGreat
namespace Go.Proofs.YtlafodnaifghcaaGreat
open Go.RowKit

/-! ### growth -/
theorem Kept.of_grow {w : World} (q : Nat) (os : Array Obj) : Kept (fun _ => False) w (Sort.grow (w.drewN q) os) :=
  ⟨rfl, rfl, rfl, by simp [Sort.grow, World.drewN], fun k hk _ => by simp [Sort.grow, World.drewN, Array.getElem?_append, hk]⟩
theorem grow_alloc (w : World) (o : Obj) : w.alloc o = Sort.grow w #[o] := by
  show ({ w with heap := w.heap.push o } : World) = { w with heap := w.heap ++ #[o] }
  rw [Array.push_eq_append]
/-- draws, and blocks behind -/
def Grew (w w' : World) : Prop := ∃ q os, w' = Sort.grow (w.drewN q) os
section
variable {w w' w'' : World}
theorem Grew.refl (w : World) : Grew w w := ⟨0, #[], by rw [Sort.grow_empty]; rfl⟩
theorem Grew.kept (h : Grew w w') : Kept (fun _ => False) w w' := by obtain ⟨q, os, rfl⟩ := h; exact Kept.of_grow q os
theorem Grew.box (h : Grew w w') {g : Nat} {t : TypeId} {cs : Array Value} (hb : Blk w g t cs) : Blk w' g t cs := h.kept.blk (fun h => h) hb
theorem Grew.size (h : Grew w w') : w.heap.size ≤ w'.heap.size := h.kept.size
theorem Grew.drewN (h : Grew w w') (n : Nat) : Grew w (w'.drewN n) := by
  obtain ⟨q, os, rfl⟩ := h
  exact ⟨q + n, os, by simp [Sort.grow, World.drewN, Nat.add_assoc]⟩
theorem Grew.drew (h : Grew w w') : Grew w w'.drew := h.drewN 1
theorem Grew.alloc (h : Grew w w') (o : Obj) : Grew w (w'.alloc o) := by
  obtain ⟨q, os, rfl⟩ := h
  exact ⟨q, os ++ #[o], by rw [grow_alloc, Sort.grow_grow]⟩
theorem Grew.setCell (h : Grew w w') {p : Addr} (hp : w.heap.size ≤ p.block) (u : Value) : Grew w (w'.setCell p u) := by
  obtain ⟨q, os, rfl⟩ := h
  have hh : ((Sort.grow (w.drewN q) os).setCell p u).heap = w.heap ++ ((Sort.grow (w.drewN q) os).setCell p u).heap.extract w.heap.size ((Sort.grow (w.drewN q) os).setCell p u).heap.size := by
    have hs : ((Sort.grow (w.drewN q) os).setCell p u).heap.size = w.heap.size + os.size := by simp [World.setCell, Sort.grow, World.drewN]
    apply Array.ext
    · simp [hs]
    · intro i h1 h2
      rw [Array.getElem_append]
      split
      · rename_i hi
        simp only [World.setCell, Sort.grow, World.drewN, Array.getElem_modify]
        rw [if_neg (by omega), Array.getElem_append_left hi]
      · rename_i hi
        rw [Array.getElem_extract]
        congr 1
        omega
  obtain ⟨os', hh⟩ : ∃ os', ((Sort.grow (w.drewN q) os).setCell p u).heap = w.heap ++ os' := ⟨_, hh⟩
  refine ⟨q, os', ?_⟩
  have e : (Sort.grow (w.drewN q) os).setCell p u = { w.drewN q with heap := ((Sort.grow (w.drewN q) os).setCell p u).heap } := rfl
  rw [e, hh]
  rfl
theorem Grew.trans (h : Grew w w') (k : Grew w' w'') : Grew w w'' := by
  obtain ⟨q, os, rfl⟩ := k
  obtain ⟨q2, os2, h2⟩ := h.drewN q
  exact ⟨q2, os2 ++ os, by rw [h2, Sort.grow_grow]⟩
end
end Go.Proofs.YtlafodnaifghcaaGreat
namespace Go.Proofs.YtlafodnaifghcaaGreat
open Go.RowKit

/-- how an element stands in cells -/
structure Enc (α : Type) where
  k : Nat
  enc : α → List Value
  len : ∀ x, (enc x).length = k
  pos : 0 < k
  one : ∀ x, ∀ u ∈ enc x, u.oneCell' = true
section
variable {α : Type} (E : Enc α)
def Enc.flat (L : List α) : List Value := L.flatMap E.enc
theorem Enc.flat_len : ∀ L : List α, (E.flat L).length = L.length * E.k
  | [] => by simp [Enc.flat]
  | x :: L => by
    have := Enc.flat_len L
    unfold Enc.flat at this ⊢
    rw [List.flatMap_cons, List.length_append, E.len, this, List.length_cons, Nat.add_mul, Nat.one_mul, Nat.add_comm]
theorem Enc.flat_append (L M : List α) : E.flat (L ++ M) = E.flat L ++ E.flat M := by simp [Enc.flat]
theorem Enc.flat_one (x : α) : E.flat [x] = E.enc x := by simp [Enc.flat]
theorem Enc.flat_get : ∀ {L : List α} {i j : Nat} {x : α} {u : Value}, L[i]? = some x → (E.enc x)[j]? = some u → (E.flat L)[i * E.k + j]? = some u
  | [], i, j, x, u, h, _ => by simp at h
  | y :: L, 0, j, x, u, h, hu => by
    simp at h
    subst h
    have hj : j < (E.enc y).length := (List.getElem?_eq_some_iff.1 hu).1
    unfold Enc.flat
    rw [List.flatMap_cons, Nat.zero_mul, Nat.zero_add, List.getElem?_append_left hj]
    exact hu
  | y :: L, i + 1, j, x, u, h, hu => by
    have ih := Enc.flat_get (L := L) (i := i) (j := j) (x := x) (u := u) (by simpa using h) hu
    unfold Enc.flat at ih ⊢
    rw [List.flatMap_cons, List.getElem?_append_right (by rw [E.len, Nat.add_mul]; omega), E.len, show (i + 1) * E.k + j - E.k = i * E.k + j by rw [Nat.add_mul]; omega]
    exact ih
theorem Enc.flat_inv : ∀ {L : List α} {m : Nat} {u : Value}, (E.flat L)[m]? = some u → ∃ i j x, m = i * E.k + j ∧ L[i]? = some x ∧ (E.enc x)[j]? = some u
  | [], m, u, h => by simp [Enc.flat] at h
  | y :: L, m, u, h => by
    unfold Enc.flat at h
    rw [List.flatMap_cons] at h
    by_cases hm : m < (E.enc y).length
    · rw [List.getElem?_append_left hm] at h
      exact ⟨0, m, y, by omega, by simp, h⟩
    · rw [List.getElem?_append_right (by omega), E.len] at h
      rw [E.len] at hm
      obtain ⟨i, j, x, h1, h2, h3⟩ := Enc.flat_inv (L := L) (m := m - E.k) (u := u) h
      exact ⟨i + 1, j, x, by rw [Nat.add_mul]; omega, by simpa using h2, h3⟩
theorem Enc.flat_one_cell (L : List α) : ∀ u ∈ E.flat L, u.oneCell' = true := by
  intro u hu
  unfold Enc.flat at hu
  obtain ⟨x, _, hx⟩ := List.mem_flatMap.1 hu
  exact E.one x u hx
/-- cells hold the elements, one behind the other -/
def Enc.Row (cs : Array Value) (D : List α) : Prop := ∀ (i : Nat) (x : α), D[i]? = some x → ∀ (j : Nat) (u : Value), (E.enc x)[j]? = some u → cs[i * E.k + j]? = some u
variable {E}
theorem Enc.Row.take {cs : Array Value} {D : List α} (h : E.Row cs D) (n : Nat) : E.Row cs (D.take n) := fun i x hx j u hu => by
  rw [List.getElem?_take] at hx
  split at hx
  · exact h i x hx j u hu
  · cases hx
theorem Enc.Row.flat {cs : Array Value} {D : List α} (h : E.Row cs D) : cs.toList.take (D.length * E.k) = E.flat D := by
  apply List.ext_getElem?
  intro m
  rw [List.getElem?_take]
  split
  · rename_i hm
    have hml : m < (E.flat D).length := by rw [E.flat_len]; exact hm
    obtain ⟨u, hu⟩ : ∃ u, (E.flat D)[m]? = some u := ⟨_, List.getElem?_eq_getElem hml⟩
    obtain ⟨i, j, x, h1, h2, h3⟩ := E.flat_inv hu
    rw [hu, Array.getElem?_toList, h1]
    exact h i x h2 j u h3
  · rename_i hm
    rw [List.getElem?_eq_none]
    rw [E.flat_len]; omega
theorem Enc.Row.of_flat {cs : Array Value} {D : List α} (h : cs.toList.take (D.length * E.k) = E.flat D) : E.Row cs D := fun i x hx j u hu => by
  have h1 := E.flat_get hx hu
  rw [← h, List.getElem?_take] at h1
  split at h1
  · simpa using h1
  · cases h1

theorem owns_sl {w : World} {base : Nat} {t : TypeId} {k n : Nat} {v : Value} {xs : List Value} (h : w.ownsRow base t k v n xs) : ∃ a c, v = .slice a n c := by
  rcases h.2 with ⟨rfl, rfl⟩ | ⟨g, cap, cur, rfl, _⟩
  · exact ⟨_, _, rfl⟩
  · exact ⟨_, _, rfl⟩
theorem owns_keep {S : Nat → Prop} {w w' : World} {base n size : Nat} {e : TypeId} {v : Value} {xs : List Value} (h : w.ownsRow base e size v n xs) (hk : Kept S w w') (hs : ∀ b, v.ownBlock = some b → ¬ S b) : w'.ownsRow base e size v n xs := by
  refine ⟨h.1, ?_⟩
  rcases h.2 with h' | ⟨g, cap, cur, rfl, hb, hg, r⟩
  · exact .inl h'
  · exact .inr ⟨g, cap, cur, rfl, hb, hk.blk (t := e) (cs := cur) (hs g rfl) hg, r⟩

/-! ### read -/
variable (E) in
/-- v reads as L -/
def SlAt (w : World) (v : Value) (L : List α) : Prop :=
  (v = .slice none 0 0 ∧ L = []) ∨ ∃ x c, v = .slice (some x) L.length c ∧ L.length ≤ c ∧ c ≤ maxLen ∧ (L ≠ [] → x.spot = none) ∧
    ∀ (i : Nat) (y : α), L[i]? = some y → ∀ (j : Nat) (u : Value), (E.enc y)[j]? = some u → w.cell? ⟨x.block, x.off + (i * E.k + j), none⟩ = some u
variable {w w' : World} {v : Value} {L : List α}
theorem SlAt.sl (h : SlAt E w v L) : ∃ a c, v = .slice a L.length c ∧ L.length ≤ c ∧ c ≤ maxLen := by
  rcases h with ⟨rfl, rfl⟩ | ⟨x, c, rfl, h1, h2, _⟩
  · exact ⟨none, 0, rfl, Nat.le_refl _, Nat.zero_le _⟩
  · exact ⟨_, _, rfl, h1, h2⟩
theorem SlAt.le (h : SlAt E w v L) : L.length ≤ maxLen := by obtain ⟨a, c, _, h1, h2⟩ := h.sl; omega
theorem SlAt.one (h : SlAt E w v L) (hn : 0 < L.length) : ∃ g o c, v = .slice (some ⟨g, o, none⟩) L.length c ∧ L.length ≤ c ∧ c ≤ maxLen ∧ g < w.heap.size ∧
    ∀ (i : Nat) (y : α), L[i]? = some y → ∀ (j : Nat) (u : Value), (E.enc y)[j]? = some u → w.cell? ⟨g, o + (i * E.k + j), none⟩ = some u := by
  rcases h with ⟨rfl, rfl⟩ | ⟨x, c, rfl, h1, h2, h3, h4⟩
  · simp at hn
  · obtain ⟨g, o, s⟩ := x
    obtain rfl : s = none := h3 (by intro e; rw [e] at hn; simp at hn)
    refine ⟨g, o, c, rfl, h1, h2, ?_, h4⟩
    obtain ⟨y, r, rfl⟩ : ∃ y r, L = y :: r := by cases L with | nil => simp at hn | cons y r => exact ⟨y, r, rfl⟩
    have hl : 0 < (E.enc y).length := by rw [E.len]; exact E.pos
    exact World.block_lt_of_cell? w _ (h4 0 y rfl 0 _ (List.getElem?_eq_getElem hl))
theorem SlAt.keep {S : Nat → Prop} (h : SlAt E w v L) (hk : Kept S w w') (hs : ∀ b, v.ownBlock = some b → b < w.heap.size → ¬ S b) : SlAt E w' v L := by
  rcases h with h | ⟨x, c, rfl, h1, h2, h3, h4⟩
  · exact .inl h
  · refine .inr ⟨x, c, rfl, h1, h2, h3, fun i y hy j u hu => ?_⟩
    have hc := h4 i y hy j u hu
    have hlt : x.block < w.heap.size := World.block_lt_of_cell? w ⟨x.block, x.off + (i * E.k + j), none⟩ hc
    exact (World.cell?_of_block (a := ⟨x.block, x.off + (i * E.k + j), none⟩) (hk.block x.block hlt (hs x.block rfl hlt))).trans hc
/-- what was there at w0 stands, where nothing of w0 is touched -/
theorem SlAt.far {w0 : World} {S : Nat → Prop} (h0 : SlAt E w0 v L) (h : SlAt E w v L) (hk : Kept S w w') (hs : ∀ b, b < w0.heap.size → ¬ S b) : SlAt E w' v L := by
  by_cases hl : L = []
  · subst hl
    rcases h with h | ⟨x, c, rfl, h1, h2, _, _⟩
    · exact .inl h
    · exact .inr ⟨x, c, rfl, h1, h2, fun e => absurd rfl e, fun i y hy => by simp at hy⟩
  · obtain ⟨g, o, c, rfl, _, _, hg, _⟩ := h0.one (List.length_pos_iff.2 hl)
    exact h.keep hk fun b hb _ => by cases hb; exact hs g hg
theorem SlAt.kept (h : SlAt E w v L) (hk : Kept (fun _ => False) w w') : SlAt E w' v L := h.keep hk fun _ _ _ h => h
theorem SlAt.news (h : SlAt E w v L) (hn : 0 < L.length) : ∃ g o c, v = .slice (some ⟨g, o, none⟩) L.length c ∧ ∀ j u, (E.flat L)[j]? = some u → w.cell? ⟨g, o + j, none⟩ = some u := by
  obtain ⟨g, o, c, rfl, _, _, _, h4⟩ := h.one hn
  refine ⟨g, o, c, rfl, fun m u hu => ?_⟩
  obtain ⟨i, j, x, rfl, h2, h3⟩ := E.flat_inv hu
  exact h4 i x h2 j u h3

theorem SlAt.at_ {x : Addr} {n c : Nat} (h : SlAt E w (.slice (some x) n c) L) : n = L.length ∧ ∀ j u, (E.flat L)[j]? = some u → w.cell? (x.add j) = some u := by
  rcases h with ⟨h, _⟩ | ⟨y, d, h, h1, h2, h3, h4⟩
  · cases h
  · injection h with e1 e2 e3
    injection e1 with e1
    subst e1
    refine ⟨e2, fun m u hu => ?_⟩
    obtain ⟨i, j, z, rfl, g2, g3⟩ := E.flat_inv hu
    have hs := h3 (by rintro rfl; simp at g2)
    obtain ⟨g, o, s⟩ := x
    obtain rfl : s = none := hs
    rw [Addr.add_lit]
    exact h4 i z g2 j u g3

theorem SlAt.none_ {n c : Nat} (h : SlAt E w (.slice none n c) L) : L = [] ∧ n = 0 ∧ c = 0 := by
  rcases h with ⟨h, e⟩ | ⟨y, d, h, _⟩
  · injection h with e1 e2 e3
    exact ⟨e, e2, e3⟩
  · cases h

/-! ### owned -/
variable (E) in
/-- block g is a row of room for cap elements, the first of which are D -/
def OwnAt (w : World) (t : TypeId) (g cap : Nat) (D : List α) : Prop := ∃ cs, Blk w g t cs ∧ cs.size = cap * E.k ∧ D.length ≤ cap ∧ cap ≤ maxLen ∧ E.Row cs D
variable {t : TypeId} {g cap : Nat} {D : List α}
theorem OwnAt.lt (h : OwnAt E w t g cap D) : g < w.heap.size := by obtain ⟨cs, h1, _⟩ := h; exact h1.lt
theorem OwnAt.le (h : OwnAt E w t g cap D) : D.length ≤ cap ∧ cap ≤ maxLen := by obtain ⟨cs, _, _, h1, h2, _⟩ := h; exact ⟨h1, h2⟩
theorem OwnAt.frozen (h : OwnAt E w t g cap D) (i : Nat) : w.frozen? ⟨g, i, none⟩ = false := by obtain ⟨cs, h1, _⟩ := h; exact h1.frozen i
theorem OwnAt.cell (h : OwnAt E w t g cap D) {i j : Nat} {x : α} {u : Value} (hx : D[i]? = some x) (hu : (E.enc x)[j]? = some u) : w.cell? ⟨g, i * E.k + j, none⟩ = some u := by
  obtain ⟨cs, h1, _, _, _, h2⟩ := h
  exact h1.cell' (h2 i x hx j u hu)
theorem OwnAt.keep {S : Nat → Prop} (h : OwnAt E w t g cap D) (hk : Kept S w w') (hs : ¬ S g) : OwnAt E w' t g cap D := by
  obtain ⟨cs, h1, h2⟩ := h
  exact ⟨cs, hk.blk hs h1, h2⟩
theorem OwnAt.take (h : OwnAt E w t g cap D) (n : Nat) : OwnAt E w t g cap (D.take n) := by
  obtain ⟨cs, h1, h2, h3, h4, h5⟩ := h
  exact ⟨cs, h1, h2, by rw [List.length_take]; omega, h4, h5.take n⟩
theorem OwnAt.slAt (h : OwnAt E w t g cap D) : SlAt E w (.slice (some ⟨g, 0, none⟩) D.length cap) D :=
  .inr ⟨⟨g, 0, none⟩, cap, rfl, h.le.1, h.le.2, fun _ => rfl, fun i y hy j u hu => by rw [Nat.zero_add]; exact h.cell hy hu⟩
theorem OwnAt.owns (h : OwnAt E w t g cap D) {base : Nat} (hb : base ≤ g) : w.ownsRow base t E.k (.slice (some ⟨g, 0, none⟩) D.length cap) D.length (E.flat D) := by
  obtain ⟨cs, h1, h2, h3, h4, h5⟩ := h
  exact ⟨E.flat_len D, .inr ⟨g, cap, cs, rfl, hb, h1, h3, h4, h2, h5.flat⟩⟩
theorem own_of {base n : Nat} (h : w.ownsRow base t E.k v n (E.flat D)) : D.length = n ∧ ((v = .slice none 0 0 ∧ D = []) ∨ ∃ g cap, v = .slice (some ⟨g, 0, none⟩) n cap ∧ base ≤ g ∧ OwnAt E w t g cap D) := by
  have hl : D.length = n := by
    have := h.1
    rw [E.flat_len] at this
    exact Nat.eq_of_mul_eq_mul_right E.pos this
  refine ⟨hl, ?_⟩
  rcases h.2 with ⟨rfl, rfl⟩ | ⟨g, cap, cur, rfl, hb, hg, h1, h2, h3, h4⟩
  · exact .inl ⟨rfl, List.length_eq_zero_iff.1 hl⟩
  · exact .inr ⟨g, cap, rfl, hb, cur, hg, h3, by omega, h2, Enc.Row.of_flat (by rw [hl]; exact h4)⟩
theorem owns_slAt {base n : Nat} (h : w.ownsRow base t E.k v n (E.flat D)) : SlAt E w v D := by
  obtain ⟨hl, hv⟩ := own_of h
  rcases hv with h | ⟨g, cap, rfl, _, ho⟩
  · exact .inl h
  · subst hl; exact ho.slAt
theorem OwnAt.set2 (h : OwnAt E w t g cap D) {i : Nat} (hi : i < D.length) {x : α} {a b : Value} (hk : E.k = 2) (hx : E.enc x = [a, b]) :
    OwnAt E ((w.setCell ⟨g, i * 2, none⟩ a).setCell ⟨g, i * 2 + 1, none⟩ b) t g cap (D.set i x) := by
  obtain ⟨cs, h1, h2, h3, h4, h5⟩ := h
  refine ⟨_, (h1.set_ (i * 2) a).set_ (i * 2 + 1) b, by simp [h2], by simpa using h3, h4, fun m y hy j u hu => ?_⟩
  rw [hk] at h2 ⊢
  have hj : j < 2 := by rw [← hk, ← E.len y]; exact (List.getElem?_eq_some_iff.1 hu).1
  have hsz : i * 2 + 1 < cs.size := by omega
  by_cases hm : i = m
  · subst hm
    simp [hi] at hy
    subst hy
    rw [hx] at hu
    rcases (show j = 0 ∨ j = 1 by omega) with rfl | rfl
    · simp at hu
      subst hu
      rw [Array.getElem?_setIfInBounds_ne (by omega), Nat.add_zero, Array.getElem?_setIfInBounds_self_of_lt (by omega)]
    · simp at hu
      subst hu
      rw [Array.getElem?_setIfInBounds_self_of_lt (by simpa using hsz)]
  · rw [List.getElem?_set_ne hm] at hy
    have := h5 m y hy j u hu
    rw [hk] at this
    rw [Array.getElem?_setIfInBounds_ne (by omega), Array.getElem?_setIfInBounds_ne (by omega)]
    exact this
theorem OwnAt.set1of3 (h : OwnAt E w t g cap D) {i m : Nat} {x y : α} (hi : D[i]? = some x) {b : Value} (hm : m < E.k) (hy : E.enc y = (E.enc x).set m b) :
    OwnAt E (w.setCell ⟨g, i * E.k + m, none⟩ b) t g cap (D.set i y) := by
  obtain ⟨cs, h1, h2, h3, h4, h5⟩ := h
  have hil : i < D.length := (List.getElem?_eq_some_iff.1 hi).1
  refine ⟨_, h1.set_ (i * E.k + m) b, by simp [h2], by simpa using h3, h4, fun n z hz j u hu => ?_⟩
  have hj : j < E.k := by rw [← E.len z]; exact (List.getElem?_eq_some_iff.1 hu).1
  have hsz : i * E.k + m < cs.size := by
    rw [h2]
    have := Nat.mul_le_mul_right E.k (show i + 1 ≤ cap by omega)
    rw [Nat.add_mul] at this
    omega
  by_cases hn : i = n
  · subst hn
    simp [hil] at hz
    subst hz
    rw [hy, List.getElem?_set] at hu
    by_cases hjm : m = j
    · subst hjm
      simp [E.len, hm] at hu
      subst hu
      rw [Array.getElem?_setIfInBounds_self_of_lt hsz]
    · rw [if_neg hjm] at hu
      rw [Array.getElem?_setIfInBounds_ne (by omega)]
      exact h5 i x hi j u hu
  · rw [List.getElem?_set_ne hn] at hz
    have hne : i * E.k + m ≠ n * E.k + j := by
      intro e
      have e1 : (i * E.k + m) / E.k = i := by rw [Nat.mul_comm, Nat.mul_add_div E.pos, Nat.div_eq_of_lt hm, Nat.add_zero]
      have e2 : (n * E.k + j) / E.k = n := by rw [Nat.mul_comm, Nat.mul_add_div E.pos, Nat.div_eq_of_lt hj, Nat.add_zero]
      rw [e, e2] at e1
      exact hn e1.symm
    rw [Array.getElem?_setIfInBounds_ne hne]
    exact h5 n z hz j u hu
end
end Go.Proofs.YtlafodnaifghcaaGreat
