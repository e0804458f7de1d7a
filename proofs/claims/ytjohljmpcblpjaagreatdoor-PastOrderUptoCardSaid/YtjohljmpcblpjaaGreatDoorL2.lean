/- Words for slices of structs in memory, and for maps with any keys. They speak of no program of their own. Arrays in blocks of their own: loaded whole, stored whole. They speak of no program of their own. A variable of several cells is loaded whole and stored whole in a region that draws its order. They speak of no program of their own. Maps with keys of whatever kind, told as lists of entries. A map of whatever keys, ranged over: each entry comes out once, in some order. -/
import Derived.Test.YtjohljmpcblpjaaGreatDoorL1
import Derived.Sort.Grow
import Derived.Laws.StructEq
import Derived.Laws.Rows
import Derived.Laws.Tables
import Derived.Deep.WholeRow
import Derived.Deep.MidRow
import Derived.Deep.RegionHeld3
import Derived.TacticsIn
import Derived.Laws.ResultCell
import Derived.WalkKit
import Derived.Maps.RangeRun
namespace Go.Proofs.YtjohljmpcblpjaaGreatDoor
open Go.RowKit

/-! ### growth -/
theorem Kept.of_grow {w : World} (q : Nat) (os : Array Obj) : Kept (fun _ => False) w (Sort.grow (w.drewN q) os) :=
  ⟨rfl, rfl, rfl, by simp [Sort.grow, World.drewN], fun k hk _ => by simp [Sort.grow, World.drewN, Array.getElem?_append, hk]⟩
theorem grow_alloc (w : World) (o : Obj) : w.alloc o = Sort.grow w #[o] := by
  show ({ w with heap := w.heap.push o } : World) = { w with heap := w.heap ++ #[o] }
  rw [Array.push_eq_append]
/-- draws, and blocks behind -/
def Grew (w w' : World) : Prop := ∃ q os, w' = Sort.grow (w.drewN q) os
section
variable {w w' w'' : World}
theorem Grew.refl (w : World) : Grew w w := ⟨0, #[], by rw [Sort.grow_empty]; rfl⟩
theorem Grew.kept (h : Grew w w') : Kept (fun _ => False) w w' := by obtain ⟨q, os, rfl⟩ := h; exact Kept.of_grow q os
theorem Grew.box (h : Grew w w') {g : Nat} {t : TypeId} {cs : Array Value} (hb : Blk w g t cs) : Blk w' g t cs := h.kept.blk (fun h => h) hb
theorem Grew.size (h : Grew w w') : w.heap.size ≤ w'.heap.size := h.kept.size
theorem Grew.drewN (h : Grew w w') (n : Nat) : Grew w (w'.drewN n) := by
  obtain ⟨q, os, rfl⟩ := h
  exact ⟨q + n, os, by simp [Sort.grow, World.drewN, Nat.add_assoc]⟩
theorem Grew.drew (h : Grew w w') : Grew w w'.drew := h.drewN 1
theorem Grew.alloc (h : Grew w w') (o : Obj) : Grew w (w'.alloc o) := by
  obtain ⟨q, os, rfl⟩ := h
  exact ⟨q, os ++ #[o], by rw [grow_alloc, Sort.grow_grow]⟩
theorem Grew.setCell (h : Grew w w') {p : Addr} (hp : w.heap.size ≤ p.block) (u : Value) : Grew w (w'.setCell p u) := by
  obtain ⟨q, os, rfl⟩ := h
  have hh : ((Sort.grow (w.drewN q) os).setCell p u).heap = w.heap ++ ((Sort.grow (w.drewN q) os).setCell p u).heap.extract w.heap.size ((Sort.grow (w.drewN q) os).setCell p u).heap.size := by
    have hs : ((Sort.grow (w.drewN q) os).setCell p u).heap.size = w.heap.size + os.size := by simp [World.setCell, Sort.grow, World.drewN]
    apply Array.ext
    · simp [hs]
    · intro i h1 h2
      rw [Array.getElem_append]
      split
      · rename_i hi
        simp only [World.setCell, Sort.grow, World.drewN, Array.getElem_modify]
        rw [if_neg (by omega), Array.getElem_append_left hi]
      · rename_i hi
        rw [Array.getElem_extract]
        congr 1
        omega
  obtain ⟨os', hh⟩ : ∃ os', ((Sort.grow (w.drewN q) os).setCell p u).heap = w.heap ++ os' := ⟨_, hh⟩
  refine ⟨q, os', ?_⟩
  have e : (Sort.grow (w.drewN q) os).setCell p u = { w.drewN q with heap := ((Sort.grow (w.drewN q) os).setCell p u).heap } := rfl
  rw [e, hh]
  rfl
theorem Grew.trans (h : Grew w w') (k : Grew w' w'') : Grew w w'' := by
  obtain ⟨q, os, rfl⟩ := k
  obtain ⟨q2, os2, h2⟩ := h.drewN q
  exact ⟨q2, os2 ++ os, by rw [h2, Sort.grow_grow]⟩
end
end Go.Proofs.YtjohljmpcblpjaaGreatDoor
namespace Go.Proofs.YtjohljmpcblpjaaGreatDoor
open Go.RowKit
section
variable {P : Program} {w w' : World} {g b : Nat} {t t' : TypeId} {cs old : Array Value}
theorem Blk.loads (h : Blk w g t cs) {n : Nat} (hn : cs.size = n) : (loadCellsFrom ⟨g, 0, none⟩ 0 n #[]).run P w = .ok cs w := by
  subst hn
  have := run_loadCells_list (P := P) w ⟨g, 0, none⟩ cs.toList (fun j v hv => by
    have hadd : (⟨g, 0, none⟩ : Addr).add j = ⟨g, j, none⟩ := by unfold Addr.add; split <;> simp_all
    rw [hadd, h.cell]
    simpa using hv)
  simpa [loadCells] using this
theorem Blk.stores (h : Blk w g t old) (hs : old.size = cs.size) (h1 : cs.all (·.oneCell') = true) : (storeCells ⟨g, 0, none⟩ cs.toList 0).run P w = .ok () (w.setRow g cs) := by
  have := run_storeCells_from (P := P) g t cs.toList 0 old w h (by simp; omega) (fun v hv => (Array.all_eq_true_iff_forall_mem.1 h1) v (by simpa using hv))
  simpa [hs] using this
theorem Blk.row (h : Blk w g t old) (cs : Array Value) : Blk (w.setRow g cs) g t cs := setRow_heap w g old cs t (0, 0) h
theorem Blk.row_far (h : Blk w b t old) (hne : b ≠ g) (cs : Array Value) : Blk (w.setRow g cs) b t old := (setRow_other w g b cs hne).trans h
theorem Kept.setRow {S : Nat → Prop} (h : Kept S w w') (hg : g < w.heap.size → S g) (cs : Array Value) : Kept S w (w'.setRow g cs) :=
  ⟨h.os, h.tape, h.output, by rw [setRow_size]; exact h.size, fun k hk hs => by rw [setRow_other _ _ _ _ (fun e => by subst e; exact hs (hg hk))]; exact h.block k hk hs⟩
theorem Grew.setRow (h : Grew w w') (hg : w.heap.size ≤ g) (cs : Array Value) : Grew w (w'.setRow g cs) := by
  obtain ⟨q, os, rfl⟩ := h
  have hs : ((Sort.grow (w.drewN q) os).setRow g cs).heap.size = w.heap.size + os.size := by rw [setRow_size]; simp [Sort.grow, World.drewN]
  have hh : ((Sort.grow (w.drewN q) os).setRow g cs).heap = w.heap ++ ((Sort.grow (w.drewN q) os).setRow g cs).heap.extract w.heap.size ((Sort.grow (w.drewN q) os).setRow g cs).heap.size := by
    apply Array.ext
    · simp [hs]
    · intro i h1 h2
      rw [Array.getElem_append]
      split
      · rename_i hi
        simp only [World.setRow, Sort.grow, World.drewN, Array.getElem_modify]
        rw [if_neg (by omega), Array.getElem_append_left hi]
      · rename_i hi
        rw [Array.getElem_extract]
        congr 1
        omega
  obtain ⟨os', hh⟩ : ∃ os', ((Sort.grow (w.drewN q) os).setRow g cs).heap = w.heap ++ os' := ⟨_, hh⟩
  refine ⟨q, os', ?_⟩
  have e : (Sort.grow (w.drewN q) os).setRow g cs = { w.drewN q with heap := ((Sort.grow (w.drewN q) os).setRow g cs).heap } := rfl
  rw [e, hh]
  rfl
theorem Kept.cell (hk : Kept (fun _ => False) w w') {a : Addr} {v : Value} (h : w.cell? a = some v) : w'.cell? a = some v := by
  have hlt := World.block_lt_of_cell? w _ h
  have hb := hk.block a.block hlt (fun h => h)
  unfold World.cell? at h ⊢
  rw [hb]
  exact h
theorem owns_lower {base base' n size : Nat} {e : TypeId} {v : Value} {xs : List Value} (h : w.ownsRow base e size v n xs) (hb : base' ≤ base) : w.ownsRow base' e size v n xs := by
  refine ⟨h.1, ?_⟩
  rcases h.2 with h2 | ⟨g, c, cur, e2, h1, h3⟩
  · exact .inl h2
  · exact .inr ⟨g, c, cur, e2, Nat.le_trans hb h1, h3⟩
theorem Blk.result {fn : Func} {p : Tmp} {ty : TypeId} {d : TypeDesc} (hr : fn.results = #[.cell p ty]) (tmps : Array Value) (h : Blk w g t cs) (hp : tmps.getD p undef = .pointer (some ⟨g, 0, none⟩))
    (hu : P.underlying ty = some d) (hd : (match d with | .struct _ | .array _ _ => true | _ => false) = true) (hi : (P.info? ty).map (·.size) = some cs.size) : (results fn tmps).run P w = .ok (.agg cs) w :=
  results_cell_row hr tmps w g t cs (0, 0) d hp h hu hd hi
end
end Go.Proofs.YtjohljmpcblpjaaGreatDoor
namespace Go.Proofs.YtjohljmpcblpjaaGreatDoor
open Go.RowKit
section
variable {P : Program}
theorem yieldsIf_load_blk {ops : Array Oper} {S : World → Prop} {op : Oper} {a : Act} (hw : Region.wanted op (yielded ops a.tmps) = true) (ty : TypeId) (x : Operand) (ho : op.op = .load ty x) {g : Nat} {t : TypeId} {cs : Array Value} {d : TypeDesc}
    (hx : a.eval x = .pointer (some ⟨g, 0, none⟩)) (hS : ∀ w, S w → Blk w g t cs) (hu : P.underlying ty = some d) (hd : (match d with | .struct _ | .array _ _ => true | _ => false) = true) (hi : (P.info? ty).map (·.size) = some cs.size) : YieldsIf P ops S op (.agg cs) a :=
  .inl ⟨hw, fun w hw' => by
    unfold execOp
    simp only [ho, hx, Instr.loadAt, Instr.sureAddr, Sem.run_bind, Sem.run_pure, Result.andThen_ok, run_loadVar_row w g t ty cs (0, 0) d (hS w hw') hu hd hi]⟩
theorem yieldsIf_load_cell {ops : Array Oper} {S : World → Prop} {op : Oper} {a : Act} (hw : Region.wanted op (yielded ops a.tmps) = true) {v : Value} (h : ∀ w, S w → (execOp a.eval op).run P w = .ok (.value v) w) : YieldsIf P ops S op v a := .inl ⟨hw, h⟩
/-- one operation of a region comes up next: what is behind it; S is shown anew -/
structure StepH (P : Program) (md : Region.Mode) (ops : Array Oper) (Q : Exit → Act → World → Prop) (S : World → Prop) (fuel : Nat) (listed : Array Bool) (a : Act) (w : World) (i : Nat) : Prop where
  out : wpOp P ops Q i (fun a' w' => S w' ∧ wpAnyH P md ops Q S fuel (listed.setIfInBounds i true) a' w') a w
section
variable {md : Region.Mode} {ops : Array Oper} {Q : Exit → Act → World → Prop} {S : World → Prop} {fuel : Nat} {listed : Array Bool} {a : Act} {w : World} {i : Nat} {o : Oper}
theorem wpAnyH_one (hr : Region.ready md ops listed = [i]) (h : StepH P md ops Q S fuel listed a w i) : wpAnyH P md ops Q S (fuel + 1) listed a w :=
  wpAnyH_all hr (by simp) fun _ hj => by rw [List.mem_singleton.1 hj]; exact h.out
theorem wpAnyH_two {j : Nat} (hr : Region.ready md ops listed = [i, j]) (h : StepH P md ops Q S fuel listed a w i) (h2 : StepH P md ops Q S fuel listed a w j) : wpAnyH P md ops Q S (fuel + 1) listed a w :=
  wpAnyH_all hr (by simp) fun k hk => by
    rcases List.mem_cons.1 hk with rfl | hk
    · exact h.out
    · rw [List.mem_singleton.1 hk]; exact h2.out
theorem takeH {v : Value} (ho : ops[i]? = some o) {d : Option Tmp} (hd : o.dst = d) (hs : Region.noSelect ops = true) (hf : Region.free md ops listed i = true) (hr : (Region.ready md ops listed).contains i = true)
    (hQ : ∀ c a w, Q (.panic c) (a.put d v) w → Q (.panic c) a w) (hy : YieldsIf P ops S o v a) (hS : S w)
    (h : wpAnyH P md ops Q S fuel (listed.setIfInBounds i true) (a.put d v) w) : wpAnyH P md ops Q S (fuel + 1) listed a w := by
  subst hd
  exact wpAnyH_take ho hs hf hr hQ hy hS h
theorem StepH.value {v : Value} {w' : World} (ho : ops[i]? = some o) {d : Option Tmp} (hd : o.dst = d) (hw : Region.wanted o (yielded ops a.tmps) = true) (he : (execOp a.eval o).run P w = .ok (.value v) w') (hS : S w') (h : S w' → wpAnyH P md ops Q S fuel (listed.setIfInBounds i true) (a.put d v) w') : StepH P md ops Q S fuel listed a w i :=
  ⟨wpOp_step ho fun K' hK => by
    subst hd
    rw [if_pos hw]
    unfold Oper.wp
    rw [he]
    exact hK _ _ ⟨hS, h hS⟩⟩
theorem StepH.skip {w' : World} (ho : ops[i]? = some o) {d : Option Tmp} (hd : o.dst = d) (hw : Region.wanted o (yielded ops a.tmps) = true) (he : (execOp a.eval o).run P w = .ok .skip w') (hS : S w') (h : S w' → wpAnyH P md ops Q S fuel (listed.setIfInBounds i true) (a.put d undef) w') : StepH P md ops Q S fuel listed a w i :=
  ⟨wpOp_step ho fun K' hK => by
    subst hd
    rw [if_pos hw]
    unfold Oper.wp
    rw [he]
    exact hK _ _ ⟨hS, h hS⟩⟩
theorem StepH.call {f : FuncId} {args : Array Value} {w' : World} (ho : ops[i]? = some o) {d : Option Tmp} (hd : o.dst = d) (hw : Region.wanted o (yielded ops a.tmps) = true) (he : (execOp a.eval o).run P w = .ok (.enter f args) w')
    (h : Calls P f args w' fun e w'' => ∃ v, e = .returned v ∧ S w'' ∧ (S w'' → wpAnyH P md ops Q S fuel (listed.setIfInBounds i true) (a.put d v) w'')) : StepH P md ops Q S fuel listed a w i :=
  ⟨wpOp_step ho fun K' hK => by
    subst hd
    rw [if_pos hw]
    unfold Oper.wp
    rw [he]
    refine Calls.mono h ?_
    rintro e w'' ⟨v, rfl, hS, h⟩
    exact hK _ _ ⟨hS, h hS⟩⟩
theorem StepH.store (ho : ops[i]? = some o) {d : Option Tmp} (hd : o.dst = d) (hw : Region.wanted o (yielded ops a.tmps) = true) (ty : TypeId) (x y : Operand) (hop : o.op = .store ty x y) {g : Nat} {t : TypeId} {old cs : Array Value}
    (hx : a.eval x = .pointer (some ⟨g, 0, none⟩)) (hy : a.eval y = .agg cs) (hB : Blk w g t old) (hi : (P.info? ty).map (·.size) = some cs.size) (hs : old.size = cs.size) (h1 : cs.all (·.oneCell') = true)
    (hS : S (w.setRow g cs)) (h : S (w.setRow g cs) → wpAnyH P md ops Q S fuel (listed.setIfInBounds i true) (a.put d undef) (w.setRow g cs)) : StepH P md ops Q S fuel listed a w i := by
  have hst : (storeVar ty ⟨g, 0, none⟩ (.agg cs)).run P w = .ok () (w.setRow g cs) := by
    cases hq : P.info? ty with
    | none => simp [hq] at hi
    | some q =>
      have hz : q.size = cs.size := by simpa [hq] using hi
      simp [storeVar, sizeOf, typeInfo, hq, Value.cells, hz, hB.stores (P := P) hs h1]
  have hr : (execOp a.eval o).run P w = .ok .skip (w.setRow g cs) := by
    unfold execOp
    simp only [hop, hx, hy, Instr.storeAt, Instr.sureAddr, Sem.run_bind, Sem.run_pure, Result.andThen_ok, hst]
  exact .skip ho hd hw hr hS h
theorem StepH.alloc (ho : ops[i]? = some o) {d : Option Tmp} (hd : o.dst = d) (hw : Region.wanted o (yielded ops a.tmps) = true) {v : Value} {w' : World} (he : (execOp a.eval o).run P w = .ok (.value v) w') (hS : S w') (h : S w' → wpAnyH P md ops Q S fuel (listed.setIfInBounds i true) (a.put d v) w') : StepH P md ops Q S fuel listed a w i := .value ho hd hw he hS h
end
theorem Blk.resultC {w : World} {g : Nat} {t : TypeId} {cs : Array Value} {fn : Func} {p u : Tmp} {ty : TypeId} {d : TypeDesc} (hr : fn.results = #[.cell p ty, .tmp u]) (tmps : Array Value) (h : Blk w g t cs) (hp : tmps.getD p undef = .pointer (some ⟨g, 0, none⟩))
    (hu : P.underlying ty = some d) (hd : (match d with | .struct _ | .array _ _ => true | _ => false) = true) (hi : (P.info? ty).map (·.size) = some cs.size) : (results fn tmps).run P w = .ok (.tuple #[.agg cs, tmps.getD u undef]) w := by
  rw [results_cell_tmp hr, hp]
  simp [asAddr, run_loadVar_row w g t ty cs (0, 0) d h hu hd hi, Result.andThen]
theorem wpListIn_load_blk {F : Fence} {n : Nat} {ops : Array Oper} {rest : List Oper} {o : Oper} {a : Act} {w : World} {Q : Exit → Act → World → Prop} (hw : Region.wanted o (yielded ops a.tmps) = true) (ty : TypeId) (x : Operand) (ho : o.op = .load ty x) {g : Nat} {t : TypeId} {cs : Array Value} {d : TypeDesc}
    (hx : a.eval x = .pointer (some ⟨g, 0, none⟩)) (hB : Blk w g t cs) (hu : P.underlying ty = some d) (hd : (match d with | .struct _ | .array _ _ => true | _ => false) = true) (hi : (P.info? ty).map (·.size) = some cs.size)
    (h : wpListIn F n P ops Q rest (a.put o.dst (.agg cs)) w) : wpListIn F n P ops Q (o :: rest) a w :=
  wpListIn_step fun K hK => by
    rw [if_pos hw]
    have hr : (execOp a.eval o).run P w = .ok (.value (.agg cs)) w := by
      unfold execOp
      simp only [ho, hx, Instr.loadAt, Instr.sureAddr, Sem.run_bind, Sem.run_pure, Result.andThen_ok, run_loadVar_row w g t ty cs (0, 0) d hB hu hd hi]
    unfold Oper.wpIn
    refine ⟨by simp [Oper.about, ho], ?_⟩
    rw [Oper.semAt_eq _ _ _ (by rw [ho]; intro c hc; cases hc), hr]
    exact hK _ _ h
theorem wpListIn_store_blk {F : Fence} {n : Nat} {ops : Array Oper} {rest : List Oper} {o : Oper} {a : Act} {w : World} {Q : Exit → Act → World → Prop} (hw : Region.wanted o (yielded ops a.tmps) = true) (ty : TypeId) (x y : Operand) (ho : o.op = .store ty x y) {g : Nat} {t : TypeId} {old cs : Array Value}
    (hx : a.eval x = .pointer (some ⟨g, 0, none⟩)) (hy : a.eval y = .agg cs) (hB : Blk w g t old) (hi : (P.info? ty).map (·.size) = some cs.size) (hs : old.size = cs.size) (h1 : cs.all (·.oneCell') = true)
    (h : wpListIn F n P ops Q rest (a.put o.dst undef) (w.setRow g cs)) : wpListIn F n P ops Q (o :: rest) a w :=
  wpListIn_step fun K hK => by
    rw [if_pos hw]
    have hst : (storeVar ty ⟨g, 0, none⟩ (.agg cs)).run P w = .ok () (w.setRow g cs) := by
      cases hq : P.info? ty with
      | none => simp [hq] at hi
      | some q =>
        have hz : q.size = cs.size := by simpa [hq] using hi
        simp [storeVar, sizeOf, typeInfo, hq, Value.cells, hz, hB.stores (P := P) hs h1]
    have hr : (execOp a.eval o).run P w = .ok .skip (w.setRow g cs) := by
      unfold execOp
      simp only [ho, hx, hy, Instr.storeAt, Instr.sureAddr, Sem.run_bind, Sem.run_pure, Result.andThen_ok, hst]
    unfold Oper.wpIn
    refine ⟨by simp [Oper.about, ho], ?_⟩
    rw [Oper.semAt_eq _ _ _ (by rw [ho]; intro c hc; cases hc), hr]
    exact hK _ _ h
end
end Go.Proofs.YtjohljmpcblpjaaGreatDoor
namespace Go.Proofs.YtjohljmpcblpjaaGreatDoor
open Go.RowKit

/-- how a key stands: what the model's look for it gives -/
structure KeyE (P : Program) (kt : TypeId) (κ : Type) [DecidableEq κ] where
  enc : κ → Value
  check : ∀ (e : Bool) (k : κ) (w : World), (Instr.checkKey e 10000 kt (enc k)).run P w = .ok () w
  now : ∀ (k x : κ) (d : TypeDesc), P.underlying kt = some d → Instr.sameNow d (enc k) (enc x) = none ∨ Instr.sameNow d (enc k) (enc x) = some (decide (k = x))
  ask : ∀ (k x : κ) (w : World), (Op.equal kt (enc k) (enc x)).run P w = .ok (decide (k = x)) w
  bits : ∀ k, Instr.sameBits 10000 (enc k) (enc k) = true
  und : ∃ d, P.underlying kt = some d
section
variable {κ : Type} [DecidableEq κ]
def getK (kvs : List (κ × Value)) (k : κ) : Option Value := (kvs.find? fun x => decide (x.1 = k)).map (·.2)
def putK : List (κ × Value) → κ → Value → List (κ × Value)
  | [], k, v => [(k, v)]
  | x :: r, k, v => if x.1 = k then (k, v) :: r else x :: putK r k v
def delK : List (κ × Value) → κ → List (κ × Value)
  | [], _ => []
  | x :: r, k => if x.1 = k then r else x :: delK r k
def findK : List (κ × Value) → κ → Nat → Option (Nat × Value)
  | [], _, _ => none
  | x :: r, k, i => if x.1 = k then some (i, x.2) else findK r k (i + 1)
theorem findK_get (kvs : List (κ × Value)) (k : κ) : ∀ i, (findK kvs k i).map (·.2) = getK kvs k := by
  induction kvs with
  | nil => intro i; rfl
  | cons x r ih =>
    intro i
    by_cases h : x.1 = k
    · simp [findK, getK, h]
    · have := ih (i + 1)
      simp only [getK] at this
      simp [findK, getK, h, this]
theorem findK_spec (kvs : List (κ × Value)) (k : κ) : ∀ i n v, findK kvs k i = some (n, v) → i ≤ n ∧ ∃ x, kvs[n - i]? = some x ∧ x.1 = k ∧ x.2 = v := by
  induction kvs with
  | nil => intro i n v h; simp [findK] at h
  | cons x r ih =>
    intro i n v h
    by_cases hx : x.1 = k
    · simp [findK, hx] at h
      obtain ⟨rfl, rfl⟩ := h
      exact ⟨Nat.le_refl _, x, by simp, hx, rfl⟩
    · simp [findK, hx] at h
      obtain ⟨h1, y, h2, h3, h4⟩ := ih _ _ _ h
      exact ⟨by omega, y, by rw [show n - i = (n - (i + 1)) + 1 by omega]; simpa using h2, h3, h4⟩
theorem putK_found (kvs : List (κ × Value)) (k : κ) (v : Value) : ∀ i n u, findK kvs k i = some (n, u) → putK kvs k v = kvs.set (n - i) (k, v) := by
  induction kvs with
  | nil => intro i n u h; simp [findK] at h
  | cons x r ih =>
    intro i n u h
    by_cases hx : x.1 = k
    · simp [findK, hx] at h
      obtain ⟨rfl, _⟩ := h
      simp [putK, hx]
    · simp [findK, hx] at h
      have := findK_spec r k _ _ _ h
      rw [show n - i = (n - (i + 1)) + 1 by omega]
      simp [putK, hx, ih _ _ _ h]
theorem putK_none (kvs : List (κ × Value)) (k : κ) (v : Value) : ∀ i, findK kvs k i = none → putK kvs k v = kvs ++ [(k, v)] := by
  induction kvs with
  | nil => intro i h; rfl
  | cons x r ih =>
    intro i h
    by_cases hx : x.1 = k
    · simp [findK, hx] at h
    · simp [findK, hx] at h
      simp [putK, hx, ih _ h]
theorem delK_found (kvs : List (κ × Value)) (k : κ) : ∀ i n u, findK kvs k i = some (n, u) → delK kvs k = kvs.eraseIdx (n - i) := by
  induction kvs with
  | nil => intro i n u h; simp [findK] at h
  | cons x r ih =>
    intro i n u h
    by_cases hx : x.1 = k
    · simp [findK, hx] at h
      obtain ⟨rfl, _⟩ := h
      simp [delK, hx]
    · simp [findK, hx] at h
      have := findK_spec r k _ _ _ h
      rw [show n - i = (n - (i + 1)) + 1 by omega]
      simp [delK, hx, ih _ _ _ h]
theorem delK_none (kvs : List (κ × Value)) (k : κ) : ∀ i, findK kvs k i = none → delK kvs k = kvs := by
  induction kvs with
  | nil => intro i h; rfl
  | cons x r ih =>
    intro i h
    by_cases hx : x.1 = k
    · simp [findK, hx] at h
    · simp [findK, hx] at h
      simp [delK, hx, ih _ h]
theorem findK_none_iff (kvs : List (κ × Value)) (k : κ) (i : Nat) : findK kvs k i = none ↔ getK kvs k = none := by
  rw [← findK_get kvs k i]; cases findK kvs k i <;> simp
theorem getK_put (kvs : List (κ × Value)) (k x : κ) (v : Value) : getK (putK kvs k v) x = if k = x then some v else getK kvs x := by
  induction kvs with
  | nil => by_cases h : k = x <;> simp [putK, getK, h]
  | cons y r ih =>
    unfold putK
    by_cases hy : y.1 = k
    · rw [if_pos hy]
      by_cases h : k = x
      · simp [getK, h]
      · have : ¬ y.1 = x := fun e => h (hy.symm.trans e)
        simp [getK, h, this]
    · rw [if_neg hy]
      by_cases hyx : y.1 = x
      · have : ¬ k = x := fun e => hy (hyx.trans e.symm)
        simp [getK, hyx, this]
      · unfold getK at ih ⊢
        rw [List.find?_cons_of_neg (by simpa using hyx), ih, List.find?_cons_of_neg (by simpa using hyx)]
/-- no key twice -/
def KeysOk (kvs : List (κ × Value)) : Prop := (kvs.map (·.1)).Nodup
theorem getK_none {kvs : List (κ × Value)} {x : κ} : getK kvs x = none ↔ x ∉ kvs.map (·.1) := by
  induction kvs with
  | nil => simp [getK]
  | cons y r ih =>
    by_cases h : y.1 = x
    · simp [getK, h]
    · unfold getK at ih ⊢
      rw [List.find?_cons_of_neg (by simpa using h), ih]
      simp only [List.map_cons, List.mem_cons, not_or]
      exact ⟨fun h1 => ⟨fun e => h e.symm, h1⟩, fun h1 => h1.2⟩
theorem KeysOk.put {kvs : List (κ × Value)} (h : KeysOk kvs) (k : κ) (v : Value) : KeysOk (putK kvs k v) := by
  unfold KeysOk at h ⊢
  induction kvs with
  | nil => simp [putK]
  | cons y r ih =>
    simp only [List.map_cons, List.nodup_cons] at h
    unfold putK
    by_cases hy : y.1 = k
    · rw [if_pos hy]; simp only [List.map_cons, List.nodup_cons]; rw [← hy]; exact h
    · rw [if_neg hy]
      simp only [List.map_cons, List.nodup_cons]
      refine ⟨?_, ih h.2⟩
      rw [← getK_none, getK_put, if_neg (fun e => hy e.symm), getK_none]
      exact h.1
theorem getK_del {kvs : List (κ × Value)} (h : KeysOk kvs) (k x : κ) : getK (delK kvs k) x = if k = x then none else getK kvs x := by
  unfold KeysOk at h
  induction kvs with
  | nil => simp [delK, getK]
  | cons y r ih =>
    simp only [List.map_cons, List.nodup_cons] at h
    unfold delK
    by_cases hy : y.1 = k
    · rw [if_pos hy]
      by_cases hx : k = x
      · rw [if_pos hx, getK_none, ← hx, ← hy]; exact h.1
      · rw [if_neg hx]
        have : ¬ y.1 = x := fun e => hx (hy.symm.trans e)
        unfold getK
        rw [List.find?_cons_of_neg (by simpa using this)]
    · rw [if_neg hy]
      by_cases hyx : y.1 = x
      · have : ¬ k = x := fun e => hy (hyx.trans e.symm)
        simp [getK, hyx, this]
      · have := ih h.2
        unfold getK at this ⊢
        rw [List.find?_cons_of_neg (by simpa using hyx), this, List.find?_cons_of_neg (by simpa using hyx)]
theorem KeysOk.del {kvs : List (κ × Value)} (h : KeysOk kvs) (k : κ) : KeysOk (delK kvs k) := by
  unfold KeysOk at h ⊢
  have : (delK kvs k).map (·.1) |>.Sublist (kvs.map (·.1)) := by
    refine List.Sublist.map _ ?_
    clear h
    induction kvs with
    | nil => exact List.Sublist.refl _
    | cons y r ih =>
      unfold delK
      split
      · exact List.sublist_cons_self _ _
      · exact ih.cons_cons _
  exact this.nodup h

/-- block b is a map of these entries, in their order -/
def MapK {P : Program} {kt : TypeId} (K : KeyE P kt κ) (w : World) (b : Nat) (kvs : List (κ × Value)) : Prop :=
  ∃ es clk, w.heap[b]? = some (.map es clk) ∧ es.toList.map (fun e => (e.key, e.val)) = kvs.map (fun x => (K.enc x.1, x.2))
variable {P : Program} {w : World} {T kt et : TypeId} {K : KeyE P kt κ} {b : Nat} {kvs : List (κ × Value)} {k : κ}
theorem run_findAsking : ∀ (l : List MapEntry) (kvs : List (κ × Value)) (i : Nat), l.map (fun e => (e.key, e.val)) = kvs.map (fun x => (K.enc x.1, x.2)) → (Instr.findAsking kt (K.enc k) l i).run P w = .ok (findK kvs k i) w := by
  intro l
  induction l with
  | nil => intro kvs i h; cases kvs with | nil => simp [Instr.findAsking, findK] | cons x r => simp at h
  | cons e l ih =>
    intro kvs i h
    cases kvs with
    | nil => simp at h
    | cons x r =>
      simp only [List.map_cons, List.cons.injEq, Prod.mk.injEq] at h
      obtain ⟨⟨h1, h2⟩, h3⟩ := h
      have ha := K.ask k x.1 w
      rw [← h1] at ha
      by_cases hx : x.1 = k
      · simp [Instr.findAsking, ha, hx, findK, h2]
      · have hx' : ¬ k = x.1 := fun e => hx e.symm
        simp [Instr.findAsking, ha, hx, hx', findK, ih r (i + 1) h3]
theorem findNow_any {d : TypeDesc} (hd : P.underlying kt = some d) : ∀ (l : List MapEntry) (kvs : List (κ × Value)) (i : Nat), l.map (fun e => (e.key, e.val)) = kvs.map (fun x => (K.enc x.1, x.2)) →
    Instr.findNow d (K.enc k) l i = none ∨ Instr.findNow d (K.enc k) l i = some (findK kvs k i) := by
  intro l
  induction l with
  | nil => intro kvs i h; cases kvs with | nil => exact .inr rfl | cons x r => simp at h
  | cons e l ih =>
    intro kvs i h
    cases kvs with
    | nil => simp at h
    | cons x r =>
      simp only [List.map_cons, List.cons.injEq, Prod.mk.injEq] at h
      obtain ⟨⟨h1, h2⟩, h3⟩ := h
      have hn := K.now k x.1 d hd
      rw [← h1] at hn
      rcases hn with hn | hn
      · left; simp [Instr.findNow, hn]
      · by_cases hx : x.1 = k
        · right; simp [Instr.findNow, hn, hx, findK, h2]
        · have hx' : ¬ k = x.1 := fun e => hx e.symm
          rcases ih r (i + 1) h3 with h4 | h4
          · left; simp [Instr.findNow, hn, hx', h4]
          · right; simp [Instr.findNow, hn, hx, hx', findK, h4]
theorem run_findKey_any {es : List MapEntry} (he : es.map (fun e => (e.key, e.val)) = kvs.map (fun x => (K.enc x.1, x.2))) : (Instr.findKey kt (K.enc k) es).run P w = .ok (findK kvs k 0) w := by
  obtain ⟨d, hd⟩ := K.und
  rcases findNow_any (k := k) hd es kvs 0 he with h | h
  · simp [Instr.findKey, run_underlying hd, h, run_findAsking es kvs 0 he]
  · simp [Instr.findKey, run_underlying hd, h]
theorem run_lookupK_ok (ht : P.underlying T = some (.map kt et)) (hm : MapK K w b kvs) {v : Value} (hv : getK kvs k = some v) :
    (Instr.lookup T (.map (some b)) (K.enc k) true).run P w = .ok (.tuple #[v, .bool true]) w := by
  obtain ⟨es, clk, hb, he⟩ := hm
  have hg := findK_get kvs k 0
  rw [hv] at hg
  obtain ⟨⟨n, u⟩, hf, rfl⟩ : ∃ x, findK kvs k 0 = some x ∧ x.2 = v := by cases h : findK kvs k 0 <;> simp_all
  simp [Instr.lookup, run_underlying ht, MapKept.run_getObj_map hb, Result.andThen, K.check, run_findKey_any he, hf]
theorem run_lookupK_none_ok (ht : P.underlying T = some (.map kt et)) (hm : MapK K w b kvs) (hv : getK kvs k = none) {z : Value} (hz : (zeroValue et).run P w = .ok z w) :
    (Instr.lookup T (.map (some b)) (K.enc k) true).run P w = .ok (.tuple #[z, .bool false]) w := by
  obtain ⟨es, clk, hb, he⟩ := hm
  simp [Instr.lookup, run_underlying ht, MapKept.run_getObj_map hb, Result.andThen, K.check, run_findKey_any he, (findK_none_iff kvs k 0).2 hv, hz]
theorem run_lookupK (ht : P.underlying T = some (.map kt et)) (hm : MapK K w b kvs) {v : Value} (hv : getK kvs k = some v) :
    (Instr.lookup T (.map (some b)) (K.enc k) false).run P w = .ok v w := by
  obtain ⟨es, clk, hb, he⟩ := hm
  have hg := findK_get kvs k 0
  rw [hv] at hg
  obtain ⟨⟨n, u⟩, hf, rfl⟩ : ∃ x, findK kvs k 0 = some x ∧ x.2 = v := by cases h : findK kvs k 0 <;> simp_all
  simp [Instr.lookup, run_underlying ht, MapKept.run_getObj_map hb, Result.andThen, K.check, run_findKey_any he, hf]
theorem run_lookupK_none (ht : P.underlying T = some (.map kt et)) (hm : MapK K w b kvs) (hv : getK kvs k = none) {z : Value} (hz : (zeroValue et).run P w = .ok z w) :
    (Instr.lookup T (.map (some b)) (K.enc k) false).run P w = .ok z w := by
  obtain ⟨es, clk, hb, he⟩ := hm
  simp [Instr.lookup, run_underlying ht, MapKept.run_getObj_map hb, Result.andThen, K.check, run_findKey_any he, (findK_none_iff kvs k 0).2 hv, hz]
theorem MapK.lt (h : MapK K w b kvs) : b < w.heap.size := by
  obtain ⟨es, clk, h1, h2⟩ := h
  rcases Nat.lt_or_ge b w.heap.size with h | h
  · exact h
  · simp [Array.getElem?_eq_none h] at h1
theorem MapK.keep {S : Nat → Prop} {w' : World} (h : MapK K w b kvs) (hk : Kept S w w') (hb : ¬ S b) : MapK K w' b kvs := by
  have hlt := h.lt
  obtain ⟨es, clk, h1, h2⟩ := h
  exact ⟨es, clk, by rw [hk.block b hlt hb]; exact h1, h2⟩
theorem MapK.ne_blk {g : Nat} {t : TypeId} {cs : Array Value} (h : MapK K w b kvs) (hb : Blk w g t cs) : g ≠ b := by
  rintro rfl
  obtain ⟨es, clk, h1, h2⟩ := h
  unfold Blk at hb
  rw [hb] at h1
  cases h1
theorem MapK.made (w : World) : MapK K (w.alloc (.map #[] 0)) w.heap.size [] := ⟨#[], 0, heap_alloc_new w _, rfl⟩
theorem kept_obj (w : World) (b : Nat) (o : Obj) : Kept (· = b) w { w with heap := w.heap.setIfInBounds b o } := ⟨rfl, rfl, rfl, by simp, fun i _ hn => by
  show (w.heap.setIfInBounds b o)[i]? = _
  rw [Array.getElem?_setIfInBounds_ne (fun e => hn e.symm)]⟩
theorem run_updateK (ht : P.underlying T = some (.map kt et)) (hm : MapK K w b kvs) (v : Value) :
    ∃ w', (Instr.mapUpdate T (.map (some b)) (K.enc k) v).run P w = .ok () w' ∧ MapK K w' b (putK kvs k v) ∧ Kept (· = b) w w' := by
  have hlt := hm.lt
  obtain ⟨es, clk, hb, he⟩ := hm
  cases hf : findK kvs k 0 with
  | none =>
    refine ⟨{ w with heap := w.heap.setIfInBounds b (.map (es.push { key := K.enc k, val := v, born := clk }) (clk + 1)) }, ?_, ⟨es.push { key := K.enc k, val := v, born := clk }, clk + 1, ?_, ?_⟩, kept_obj _ _ _⟩
    · simp [Instr.mapUpdate, run_underlying ht, MapKept.run_getObj_map hb, Result.andThen, K.check, run_findKey_any he, hf, MapKept.run_setObj_map _ hb]
    · simp [hlt]
    · rw [putK_none kvs k v 0 hf]; simp [he]
  | some x =>
    obtain ⟨n, u⟩ := x
    obtain ⟨-, x, hx, rfl, rfl⟩ := findK_spec kvs k 0 n u hf
    have hn : n < kvs.length := by
      rcases Nat.lt_or_ge n kvs.length with h | h
      · exact h
      · rw [List.getElem?_eq_none (by omega)] at hx; cases hx
    have hlen : es.size = kvs.length := by have := congrArg List.length he; simpa using this
    have hkey : es[n].key = K.enc x.1 := by
      have h0 := congrArg (·[n]?) he
      simp only [List.getElem?_map] at h0
      rw [Nat.sub_zero] at hx
      rw [hx] at h0
      simp [Array.getElem?_eq_getElem (show n < es.size by omega)] at h0
      exact h0.1
    refine ⟨{ w with heap := w.heap.setIfInBounds b (.map (es.modify n fun e => { e with key := K.enc x.1, val := v }) clk) }, ?_, ⟨es.modify n fun e => { e with key := K.enc x.1, val := v }, clk, ?_, ?_⟩, kept_obj _ _ _⟩
    · simp [Instr.mapUpdate, run_underlying ht, MapKept.run_getObj_map hb, Result.andThen, K.check, run_findKey_any he, hf, MapKept.run_setObj_map _ hb, Array.getElem?_eq_getElem (show n < es.size by omega), hkey, Instr.keyThatStays, K.bits]
    · simp [hlt]
    · rw [putK_found kvs x.1 v 0 n _ hf]
      apply List.ext_getElem?
      intro i
      have h0 := congrArg (·[i]?) he
      simp only [List.getElem?_map] at h0 ⊢
      rw [Nat.sub_zero, Array.getElem?_toList, Array.getElem?_modify, List.getElem?_set]
      rw [Array.getElem?_toList] at h0
      by_cases hi : n = i
      · subst hi
        simp [hn, Array.getElem?_eq_getElem (show n < es.size by omega)]
      · simp [hi, h0]
theorem run_deleteK (ht : P.underlying T = some (.map kt et)) (ty : TypeId) (hm : MapK K w b kvs) :
    ∃ w', (Builtin.delete_ #[T, kt] ty #[.map (some b), K.enc k]).run P w = .ok (.tuple #[]) w' ∧ MapK K w' b (delK kvs k) ∧ Kept (· = b) w w' := by
  have hlt := hm.lt
  obtain ⟨es, clk, hb, he⟩ := hm
  cases hf : findK kvs k 0 with
  | none =>
    refine ⟨{ w with heap := w.heap.setIfInBounds b (.map es clk) }, ?_, ⟨es, clk, ?_, ?_⟩, kept_obj _ _ _⟩
    · simp [Builtin.delete_, run_underlying ht, MapKept.run_getObj_map hb, Result.andThen, K.check, run_findKey_any he, hf, MapKept.run_setObj_map _ hb]
    · simp [hlt]
    · rw [delK_none kvs k 0 hf]; exact he
  | some x =>
    obtain ⟨n, u⟩ := x
    refine ⟨{ w with heap := w.heap.setIfInBounds b (.map (es.eraseIdxIfInBounds n) clk) }, ?_, ⟨es.eraseIdxIfInBounds n, clk, ?_, ?_⟩, kept_obj _ _ _⟩
    · simp [Builtin.delete_, run_underlying ht, MapKept.run_getObj_map hb, Result.andThen, K.check, run_findKey_any he, hf, MapKept.run_setObj_map _ hb]
    · simp [hlt]
    · rw [delK_found kvs k 0 n _ hf, Array.toList_eraseIdxIfInBounds, Nat.sub_zero, Go.ChangeMaps.map_eraseIdx, he, ← Go.ChangeMaps.map_eraseIdx]
end
end Go.Proofs.YtjohljmpcblpjaaGreatDoor
namespace Go.Proofs.YtjohljmpcblpjaaGreatDoor
open Go.RowKit
open Go.ChangeMaps (setBlock)
section
variable {κ : Type} [DecidableEq κ] {P : Program} {w : World} {T kt et : TypeId} {K : KeyE P kt κ} {b r : Nat} {kvs left : List (κ × Value)} {k : κ}
/-- a map whose entries were laid in one behind the other -/
def MapR (K : KeyE P kt κ) (w : World) (b : Nat) (kvs : List (κ × Value)) : Prop :=
  ∃ es clk, w.heap[b]? = some (.map es clk) ∧ es.toList.map (fun e => (e.key, e.val)) = kvs.map (fun x => (K.enc x.1, x.2)) ∧ (∀ x ∈ es.toList, x.born < clk) ∧ (es.toList.map (·.born)).Nodup
theorem MapR.mapK (h : MapR K w b kvs) : MapK K w b kvs := by
  obtain ⟨es, clk, h1, h2, _⟩ := h
  exact ⟨es, clk, h1, h2⟩
theorem MapR.keep {S : Nat → Prop} {w' : World} (h : MapR K w b kvs) (hk : Kept S w w') (hb : ¬ S b) : MapR K w' b kvs := by
  have hlt := h.mapK.lt
  obtain ⟨es, clk, h1, h2⟩ := h
  exact ⟨es, clk, by rw [hk.block b hlt hb]; exact h1, h2⟩
theorem MapR.made (w : World) : MapR K (w.alloc (.map #[] 0)) w.heap.size [] := ⟨#[], 0, heap_alloc_new w _, rfl, fun x hx => by simp at hx, by simp⟩
theorem run_updateR (ht : P.underlying T = some (.map kt et)) (hm : MapR K w b kvs) (v : Value) :
    ∃ w', (Instr.mapUpdate T (.map (some b)) (K.enc k) v).run P w = .ok () w' ∧ MapR K w' b (putK kvs k v) ∧ Kept (· = b) w w' := by
  have hlt := hm.mapK.lt
  obtain ⟨es, clk, hb, he, hold, hnd⟩ := hm
  cases hf : findK kvs k 0 with
  | none =>
    refine ⟨{ w with heap := w.heap.setIfInBounds b (.map (es.push { key := K.enc k, val := v, born := clk }) (clk + 1)) }, ?_, ⟨es.push { key := K.enc k, val := v, born := clk }, clk + 1, ?_, ?_, ?_, ?_⟩, kept_obj _ _ _⟩
    · simp [Instr.mapUpdate, run_underlying ht, MapKept.run_getObj_map hb, Result.andThen, K.check, run_findKey_any he, hf, MapKept.run_setObj_map _ hb]
    · simp [hlt]
    · rw [putK_none kvs k v 0 hf]; simp [he]
    · intro x hx
      rw [Array.toList_push] at hx
      rcases List.mem_append.1 hx with hx | hx
      · have := hold x hx; omega
      · rw [List.mem_singleton.1 hx]; exact Nat.lt_succ_self _
    · rw [Array.toList_push, List.map_append]
      refine List.nodup_append.2 ⟨hnd, by simp, fun a ha c hc e => ?_⟩
      obtain ⟨x, hx, rfl⟩ := List.mem_map.1 ha
      simp at hc
      have := hold x hx
      omega
  | some x =>
    obtain ⟨n, u⟩ := x
    obtain ⟨-, x, hx, rfl, rfl⟩ := findK_spec kvs k 0 n u hf
    have hn : n < kvs.length := by
      rcases Nat.lt_or_ge n kvs.length with h | h
      · exact h
      · rw [List.getElem?_eq_none (by omega)] at hx; cases hx
    have hlen : es.size = kvs.length := by have := congrArg List.length he; simpa using this
    have hkey : es[n].key = K.enc x.1 := by
      have h0 := congrArg (·[n]?) he
      simp only [List.getElem?_map] at h0
      rw [Nat.sub_zero] at hx
      rw [hx] at h0
      simp [Array.getElem?_eq_getElem (show n < es.size by omega)] at h0
      exact h0.1
    have hbn : (es.modify n fun e => { e with key := K.enc x.1, val := v }).toList.map (·.born) = es.toList.map (·.born) := by
      apply List.ext_getElem?
      intro i
      simp only [List.getElem?_map, Array.getElem?_toList, Array.getElem?_modify]
      by_cases hi : n = i
      · subst hi
        simp [Array.getElem?_eq_getElem (show n < es.size by omega)]
      · simp [hi]
    refine ⟨{ w with heap := w.heap.setIfInBounds b (.map (es.modify n fun e => { e with key := K.enc x.1, val := v }) clk) }, ?_, ⟨es.modify n fun e => { e with key := K.enc x.1, val := v }, clk, ?_, ?_, ?_, ?_⟩, kept_obj _ _ _⟩
    · simp [Instr.mapUpdate, run_underlying ht, MapKept.run_getObj_map hb, Result.andThen, K.check, run_findKey_any he, hf, MapKept.run_setObj_map _ hb, Array.getElem?_eq_getElem (show n < es.size by omega), hkey, Instr.keyThatStays, K.bits]
    · simp [hlt]
    · rw [putK_found kvs x.1 v 0 n _ hf]
      apply List.ext_getElem?
      intro i
      have h0 := congrArg (·[i]?) he
      simp only [List.getElem?_map] at h0 ⊢
      rw [Nat.sub_zero, Array.getElem?_toList, Array.getElem?_modify, List.getElem?_set]
      rw [Array.getElem?_toList] at h0
      by_cases hi : n = i
      · subst hi
        simp [hn, Array.getElem?_eq_getElem (show n < es.size by omega)]
      · simp [hi, h0]
    · intro y hy
      have h1 : y.born ∈ es.toList.map (·.born) := by rw [← hbn]; exact List.mem_map_of_mem hy
      obtain ⟨z, hz, e⟩ := List.mem_map.1 h1
      rw [← e]
      exact hold z hz
    · rw [hbn]; exact hnd
theorem run_deleteR (ht : P.underlying T = some (.map kt et)) (ty : TypeId) (hm : MapR K w b kvs) :
    ∃ w', (Builtin.delete_ #[T, kt] ty #[.map (some b), K.enc k]).run P w = .ok (.tuple #[]) w' ∧ MapR K w' b (delK kvs k) ∧ Kept (· = b) w w' := by
  have hlt := hm.mapK.lt
  obtain ⟨es, clk, hb, he, hold, hnd⟩ := hm
  cases hf : findK kvs k 0 with
  | none =>
    refine ⟨{ w with heap := w.heap.setIfInBounds b (.map es clk) }, ?_, ⟨es, clk, ?_, ?_, hold, hnd⟩, kept_obj _ _ _⟩
    · simp [Builtin.delete_, run_underlying ht, MapKept.run_getObj_map hb, Result.andThen, K.check, run_findKey_any he, hf, MapKept.run_setObj_map _ hb]
    · simp [hlt]
    · rw [delK_none kvs k 0 hf]; exact he
  | some x =>
    obtain ⟨n, u⟩ := x
    have hsub : (es.eraseIdxIfInBounds n).toList.Sublist es.toList := by
      rw [Array.toList_eraseIdxIfInBounds]
      exact List.eraseIdx_sublist ..
    refine ⟨{ w with heap := w.heap.setIfInBounds b (.map (es.eraseIdxIfInBounds n) clk) }, ?_, ⟨es.eraseIdxIfInBounds n, clk, ?_, ?_, fun y hy => hold y (hsub.subset hy), hnd.sublist (hsub.map _)⟩, kept_obj _ _ _⟩
    · simp [Builtin.delete_, run_underlying ht, MapKept.run_getObj_map hb, Result.andThen, K.check, run_findKey_any he, hf, MapKept.run_setObj_map _ hb]
    · simp [hlt]
    · rw [delK_found kvs k 0 n _ hf, Array.toList_eraseIdxIfInBounds, Nat.sub_zero, Go.ChangeMaps.map_eraseIdx, he, ← Go.ChangeMaps.map_eraseIdx]
/-- the loop's own look at a map: what has not come out yet -/
def RangeR (K : KeyE P kt κ) (w : World) (r b : Nat) (kvs left : List (κ × Value)) : Prop :=
  ∃ es clk since seen c0, w.heap[r]? = some (.mapIter (some b) since seen c0) ∧ w.heap[b]? = some (.map es clk) ∧ es.toList.map (fun e => (e.key, e.val)) = kvs.map (fun x => (K.enc x.1, x.2)) ∧ (∀ x ∈ es.toList, x.born < clk) ∧ (es.toList.map (·.born)).Nodup ∧ (∀ x ∈ es.toList, x.born < since) ∧ since ≤ c0 ∧ since ≤ clk ∧
    (leftOf es seen).toList.map (fun e => (e.key, e.val)) = left.map (fun x => (K.enc x.1, x.2))
theorem RangeR.mapR (h : RangeR K w r b kvs left) : MapR K w b kvs := by
  obtain ⟨es, clk, since, seen, c0, _, h2, h3, h4, h5, _⟩ := h
  exact ⟨es, clk, h2, h3, h4, h5⟩
theorem RangeR.lt (h : RangeR K w r b kvs left) : r < w.heap.size := by
  obtain ⟨es, clk, since, seen, c0, h1, _⟩ := h
  rcases Nat.lt_or_ge r w.heap.size with h | h
  · exact h
  · simp [Array.getElem?_eq_none h] at h1
theorem RangeR.keep {S : Nat → Prop} {w' : World} (h : RangeR K w r b kvs left) (hk : Kept S w w') (hr : ¬ S r) (hb : ¬ S b) : RangeR K w' r b kvs left := by
  have h1 := h.lt
  have h2 := h.mapR.mapK.lt
  obtain ⟨es, clk, since, seen, c0, a1, a2, a3⟩ := h
  exact ⟨es, clk, since, seen, c0, by rw [hk.block r h1 hr]; exact a1, by rw [hk.block b h2 hb]; exact a2, a3⟩
theorem run_rangeR (ht : P.underlying T = some (.map kt et)) (hm : MapR K w b kvs) :
    ∃ w', (Instr.range T (.map (some b))).run P w = .ok (.pointer (some ⟨w.heap.size, 0, none⟩)) w' ∧ RangeR K w' w.heap.size b kvs kvs ∧ Kept (fun _ => False) w w' := by
  have hlt := hm.mapK.lt
  obtain ⟨es, clk, hb, he, hold, hnd⟩ := hm
  have hl : leftOf es #[] = es := by
    unfold leftOf
    exact Array.filter_eq_self.2 fun x _ => by simp
  exact ⟨_, run_range_map w T kt et b es clk ht hb, ⟨es, clk, clk, #[], clk, heap_alloc_new w _, by rw [heap_alloc_old w _ hlt]; exact hb, he, hold, hnd, hold, Nat.le_refl _, Nat.le_refl _, by rw [hl]; exact he⟩, (Kept.refl _ _).alloc _⟩
theorem filter_erase {l : List MapEntry} : ∀ {j : Nat} {e : MapEntry}, (l.map (·.born)).Nodup → l[j]? = some e → l.filter (fun x => x.born != e.born) = l.eraseIdx j := by
  induction l with
  | nil => intro j e _ h; simp at h
  | cons x l ih =>
    intro j e hn h
    rw [List.map_cons] at hn
    obtain ⟨h1, h2⟩ := List.nodup_cons.1 hn
    cases j with
    | zero =>
      have e1 : x = e := by simpa using h
      subst e1
      rw [List.filter_cons_of_neg (by simp), List.eraseIdx_zero, List.tail_cons]
      refine List.filter_eq_self.2 fun y hy => ?_
      have : y.born ≠ x.born := fun e2 => h1 (e2 ▸ List.mem_map_of_mem hy)
      simpa using this
    | succ j =>
      have e1 : l[j]? = some e := by simpa using h
      have hne : x.born ≠ e.born := fun e2 => h1 (e2 ▸ List.mem_map_of_mem (List.mem_of_getElem? e1))
      rw [List.filter_cons_of_pos (by simpa using hne), List.eraseIdx_cons_succ, ih h2 e1]
/-- the entry that came out last -/
def CurR (K : KeyE P kt κ) (w : World) (r b : Nat) (x : κ × Value) : Prop :=
  ∃ (es : Array MapEntry) (clk since : Nat) (seen : Array Nat) (e : MapEntry), w.heap[r]? = some (.mapIter (some b) since (seen.push e.born) clk) ∧ w.heap[b]? = some (.map es clk) ∧ e ∈ es.toList ∧ (es.toList.map (·.born)).Nodup ∧ e.key = K.enc x.1 ∧ e.val = x.2
theorem CurR.keep {S : Nat → Prop} {w' : World} {x : κ × Value} (h : CurR K w r b x) (hk : Kept S w w') (hr : ¬ S r) (hb : ¬ S b) : CurR K w' r b x := by
  obtain ⟨es, clk, since, seen, e, a1, a2, a3⟩ := h
  have h1 : r < w.heap.size := by
    rcases Nat.lt_or_ge r w.heap.size with h | h
    · exact h
    · simp [Array.getElem?_eq_none h] at a1
  have h2 : b < w.heap.size := by
    rcases Nat.lt_or_ge b w.heap.size with h | h
    · exact h
    · simp [Array.getElem?_eq_none h] at a2
  exact ⟨es, clk, since, seen, e, by rw [hk.block r h1 hr]; exact a1, by rw [hk.block b h2 hb]; exact a2, a3⟩
theorem run_entryR {x : κ × Value} (h : CurR K w r b x) : (Instr.entry (.pointer (some ⟨r, 0, none⟩))).run P w = .ok (.tuple #[K.enc x.1, x.2]) w := by
  obtain ⟨es, clk, since, seen, e, a1, a2, a3, a4, a5, a6⟩ := h
  rw [← a5, ← a6]
  exact run_entry_at w r b since seen es clk e a1 a2 a3 a4
theorem run_nextR (ty : TypeId) (h : RangeR K w r b kvs left) :
    (left = [] ∧ (Instr.next (.pointer (some ⟨r, 0, none⟩)) false ty).run P w = .ok (.tuple #[.bool false]) w) ∨
    ∃ (j : Nat) (x : κ × Value) (w' : World), left[j]? = some x ∧ (Instr.next (.pointer (some ⟨r, 0, none⟩)) false ty).run P w = .ok (.tuple #[.bool true, K.enc x.1, x.2]) w' ∧ RangeR K w' r b kvs (left.eraseIdx j) ∧ CurR K w' r b x ∧ Kept (· = r) w w' := by
  have hrlt := h.lt
  obtain ⟨es, clk, since, seen, c0, a1, a2, a3, a4, a5, a6, a7, a8, a9⟩ := h
  rcases run_next_at (P := P) w ty r b since c0 seen es clk a1 a2 a6 a7 with ⟨h0, hrun⟩ | ⟨e, he, w1, hal, hrun⟩
  · left
    have h1 := congrArg List.length a9
    simp only [List.length_map, Array.length_toList] at h1
    exact ⟨List.eq_nil_of_length_eq_zero (by omega), hrun⟩
  · right
    obtain ⟨j, hj⟩ := List.getElem?_of_mem he
    have h1 := congrArg (·[j]?) a9
    simp only [List.getElem?_map, hj, Option.map_some] at h1
    obtain ⟨x, hx, hxe⟩ : ∃ x, left[j]? = some x ∧ (K.enc x.1, x.2) = (e.key, e.val) := by
      cases hl : left[j]? with
      | none => rw [hl] at h1; cases h1
      | some x => rw [hl] at h1; exact ⟨x, rfl, (Option.some.inj h1).symm⟩
    injection hxe with hx1 hx2
    have hleft : leftOf es (seen.push e.born) = (leftOf es seen).filter fun y => y.born != e.born := by
      unfold leftOf
      rw [Array.filter_filter]
      congr 1
      funext y
      rw [Array.contains_push]
      simp only [Bool.not_or, bne]
      rw [Bool.and_comm]
    have hsub : ((leftOf es seen).toList.map (·.born)).Nodup := by
      unfold leftOf
      rw [Array.toList_filter]
      exact a5.sublist (List.filter_sublist.map _)
    have hw1 : w1.heap = w.heap := by rcases hal with rfl | rfl <;> rfl
    have hne : r ≠ b := by
      rintro rfl
      rw [a1] at a2
      cases a2
    refine ⟨j, x, _, hx, by rw [hx1, hx2]; exact hrun, ⟨es, clk, since, seen.push e.born, clk, ?_, ?_, a3, a4, a5, a6, a8, a8, ?_⟩, ⟨es, clk, since, seen, e, ?_, ?_, ?_, a5, hx1.symm, hx2.symm⟩, ?_⟩
    · show (w1.heap.setIfInBounds r _)[r]? = _
      rw [hw1]
      simp [hrlt]
    · show (w1.heap.setIfInBounds r _)[b]? = _
      rw [hw1, Array.getElem?_setIfInBounds_ne hne]
      exact a2
    · rw [hleft, Array.toList_filter, filter_erase hsub hj, Go.ChangeMaps.map_eraseIdx, a9, ← Go.ChangeMaps.map_eraseIdx]
    · show (w1.heap.setIfInBounds r _)[r]? = _
      rw [hw1]
      simp [hrlt]
    · show (w1.heap.setIfInBounds r _)[b]? = _
      rw [hw1, Array.getElem?_setIfInBounds_ne hne]
      exact a2
    · unfold leftOf at he
      rw [Array.toList_filter] at he
      exact (List.mem_filter.1 he).1
    · rcases hal with rfl | rfl
      · exact ⟨rfl, rfl, rfl, by simp [setBlock], fun i _ hn => by
          show (w1.heap.setIfInBounds r _)[i]? = _
          rw [Array.getElem?_setIfInBounds_ne (fun e => hn e.symm)]⟩
      · exact ⟨rfl, rfl, rfl, by show w.heap.size ≤ (w.heap.setIfInBounds r _).size; simp, fun i _ hn => by
          show (w.heap.setIfInBounds r _)[i]? = _
          rw [Array.getElem?_setIfInBounds_ne (fun e => hn e.symm)]⟩
end
end Go.Proofs.YtjohljmpcblpjaaGreatDoor
