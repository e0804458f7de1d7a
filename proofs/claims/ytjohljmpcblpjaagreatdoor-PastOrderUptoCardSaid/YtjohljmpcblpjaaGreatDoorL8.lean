/- Elements of several cells, loaded whole and stored whole. They speak of no program of their own. append of one element to a row of the call's own: what becomes of the old row. A document in memory: who stands behind whom. (*tree.Tree).all, and its iterator for any function that is handed to it. -/
import Derived.Test.YtjohljmpcblpjaaGreatDoorL4
import Derived.Test.YtjohljmpcblpjaaGreatDoorL2
import Derived.Test.YtjohljmpcblpjaaGreatDoorL5
import Derived.Maps.AppendAt
import Derived.Deep.AppendSrc
import Derived.Test.YtjohljmpcblpjaaGreatDoorL7
import Derived.Test.YtjohljmpcblpjaaGreatDoorChecked
import Derived.WalkKit
import Derived.Deep.DeepCutAuto
import Derived.ProofKit
import Derived.OpenShut
import Derived.ChangeOld
import Derived.Below
import Derived.StillTailTactics
import Derived.Lib.Hide
namespace Go.Proofs.YtjohljmpcblpjaaGreatDoor
open Go.RowKit
section
variable {P : Program} {α : Type} {E : Enc α} {w w' : World}
theorem run_storeCells_el (g : Nat) (t : TypeId) (o : Nat) : ∀ (vs : List Value) (i : Nat) (cur : Array Value) (w : World), w.heap[g]? = some (.cells cur t (0, 0)) → o + i + vs.length ≤ cur.size → (∀ v ∈ vs, v.oneCell' = true) →
    ∃ cur' : Array Value, (storeCells ⟨g, o, none⟩ vs i).run P w = .ok () (w.setRow g cur') ∧ cur'.size = cur.size ∧ (∀ j, j < vs.length → cur'[o + i + j]? = vs[j]?) ∧ (∀ m, (m < o + i ∨ o + i + vs.length ≤ m) → cur'[m]? = cur[m]?)
  | [], i, cur, w, hg, hl, _ => by
    refine ⟨cur, ?_, rfl, fun j hj => by simp at hj, fun _ _ => rfl⟩
    have hv : w.heap[g]? = some (.cells cur t (0, 0)) := hg
    simp only [storeCells]
    show Result.ok () w = _
    congr 1
    unfold World.setRow
    cases w with
    | mk heap tape drawn os output =>
      congr 1
      apply Array.ext
      · simp
      · intro k h1 h2
        simp only [Array.getElem_modify]
        split
        · rename_i hk
          subst hk
          simp only [Array.getElem?_eq_getElem h1, Option.some.injEq] at hv
          rw [hv]
        · rfl
  | v :: rest, i, cur, w, hg, hl, h1 => by
    have hi : o + i < cur.size := by simp at hl; omega
    have hcell : w.cell? ⟨g, o + i, none⟩ = some cur[o + i] := by simp [World.cell?, hg, hi]
    have hfro : w.frozen? ⟨g, o + i, none⟩ = false := by simp [World.frozen?, hg]
    have hst : (store ((⟨g, o, none⟩ : Addr).add i) v).run P w = .ok () (w.setRow g (cur.setIfInBounds (o + i) v)) := by
      rw [Addr.add_lit, run_store P w _ v _ (h1 v (by simp)), hcell]
      simp [hfro, setCell_eq_setRow w g (o + i) cur t (0, 0) v hg]
    obtain ⟨cur', h2, h3, h4, h5⟩ := run_storeCells_el g t o rest (i + 1) (cur.setIfInBounds (o + i) v) (w.setRow g (cur.setIfInBounds (o + i) v)) (setRow_heap w g cur _ t _ hg) (by simp at hl ⊢; omega) (fun x hx => h1 x (by simp [hx]))
    refine ⟨cur', ?_, by rw [h3]; simp, fun j hj => ?_, fun m hm => ?_⟩
    · simp only [storeCells, Sem.run_bind, hst, Result.andThen_ok, h2, setRow_setRow]
    · cases j with
      | zero =>
        rw [Nat.add_zero, h5 (o + i) (.inl (by omega)), Array.getElem?_setIfInBounds_self_of_lt hi]
        rfl
      | succ j =>
        rw [show o + i + (j + 1) = o + (i + 1) + j by omega, h4 j (by simpa using hj)]
        rfl
    · rw [h5 m (by simp at hm; omega), Array.getElem?_setIfInBounds_ne (by simp at hm; omega)]
theorem run_storeVar_elem {t ty : TypeId} {g cap i : Nat} {D : List α} {z : α} (hO : OwnAt E w t g cap D) (hi : i < D.length) (hinfo : (P.info? ty).map (·.size) = some E.k) :
    ∃ w', (storeVar ty ⟨g, i * E.k, none⟩ (.agg (E.enc z).toArray)).run P w = .ok () w' ∧ OwnAt E w' t g cap (D.set i z) ∧ Kept (fun b => b = g) w w' := by
  obtain ⟨cs, h1, h2, h3, h4, h5⟩ := hO
  have hm := Nat.mul_le_mul_right E.k (show i + 1 ≤ cap by omega)
  rw [Nat.add_mul, Nat.one_mul] at hm
  obtain ⟨cur', r1, r2, r3, r4⟩ := run_storeCells_el (P := P) g t (i * E.k) (E.enc z) 0 cs w h1 (by rw [E.len]; omega) (E.one z)
  rw [Nat.add_zero] at r3 r4
  refine ⟨w.setRow g cur', ?_, ⟨cur', Blk.row h1 cur', by omega, by simpa using h3, h4, fun n y hy j u hu => ?_⟩, Kept.setRow (Kept.refl (fun b => b = g) w) (fun _ => rfl) cur'⟩
  · cases hq : P.info? ty with
    | none => simp [hq] at hinfo
    | some q =>
      have hs : (E.enc z).length = q.size := by simp [hq] at hinfo; rw [E.len]; omega
      simp [storeVar, sizeOf, typeInfo, hq, Value.cells, hs, r1]
  · have hj : j < E.k := by rw [← E.len y]; exact (List.getElem?_eq_some_iff.1 hu).1
    by_cases hn : i = n
    · subst hn
      simp [hi] at hy
      subst hy
      rw [r3 j (by rw [E.len]; exact hj)]
      exact hu
    · rw [List.getElem?_set_ne hn] at hy
      have ho : n * E.k + j < i * E.k ∨ i * E.k + (E.enc z).length ≤ n * E.k + j := by
        rw [E.len]
        rcases Nat.lt_or_gt_of_ne hn with h | h
        · right
          have := Nat.mul_le_mul_right E.k (show i + 1 ≤ n by omega)
          rw [Nat.add_mul, Nat.one_mul] at this
          omega
        · left
          have := Nat.mul_le_mul_right E.k (show n + 1 ≤ i by omega)
          rw [Nat.add_mul, Nat.one_mul] at this
          omega
      rw [r4 _ ho]
      exact h5 n y hy j u hu
/-- a struct's value goes into an element -/
theorem wpList_store_elem {ops : Array Oper} {rest : List Oper} {o : Oper} {a : Act} {Q : Exit → Act → World → Prop} (hgd : o.guard = none) (ty : TypeId) (x y : Operand) (ho : o.op = .store ty x y) {t : TypeId} {g cap i : Nat} {D : List α} (z : α)
    (hx : a.eval x = .pointer (some ⟨g, i * E.k, none⟩)) (hy : a.eval y = .agg (E.enc z).toArray) (hO : OwnAt E w t g cap D) (hi : i < D.length) (hinfo : (P.info? ty).map (·.size) = some E.k)
    (h : ∀ w', OwnAt E w' t g cap (D.set i z) → Kept (fun b => b = g) w w' → wpList P ops Q rest (a.put o.dst undef) w') : wpList P ops Q (o :: rest) a w :=
  wpList_plain hgd fun _ hK => by
    obtain ⟨w', r1, r2, r3⟩ := run_storeVar_elem (P := P) (ty := ty) (z := z) hO hi hinfo
    unfold Oper.wp execOp
    simp only [ho, hx, hy, Instr.storeAt, Instr.sureAddr, Sem.run_bind, Sem.run_pure, Result.andThen_ok, r1]
    exact hK _ _ (h w' r2 r3)
theorem run_loadVar_elem {ty : TypeId} {g off : Nat} {z : α} {d : TypeDesc} (hc : ∀ j u, (E.enc z)[j]? = some u → w.cell? ⟨g, off + j, none⟩ = some u) (hu : P.underlying ty = some d) (hd : (match d with | .struct _ | .array _ _ => true | _ => false) = true)
    (hinfo : (P.info? ty).map (·.size) = some E.k) : (loadVar ty ⟨g, off, none⟩).run P w = .ok (.agg (E.enc z).toArray) w := by
  have hl := run_loadCells_list (P := P) w ⟨g, off, none⟩ (E.enc z) (fun j v hv => by rw [Addr.add_lit]; exact hc j v hv)
  rw [E.len] at hl
  cases hq : P.info? ty with
  | none => simp [hq] at hinfo
  | some i =>
    have hs : i.size = E.k := by simpa [hq] using hinfo
    have hagg : (isAgg ty).run P w = .ok true w := by
      unfold isAgg
      rw [Sem.run_bind, run_underlying hu w]
      cases d <;> simp_all
    simp [loadVar, Sem.run_bind, hagg, sizeOf, typeInfo, hq, hs, hl]
/-- an element is loaded whole -/
theorem wpList_load_elem {ops : Array Oper} {rest : List Oper} {o : Oper} {a : Act} {Q : Exit → Act → World → Prop} (hgd : o.guard = none) (ty : TypeId) (x : Operand) (ho : o.op = .load ty x) {t : TypeId} {g cap i : Nat} {D : List α} {z : α} {d : TypeDesc}
    (hx : a.eval x = .pointer (some ⟨g, i * E.k, none⟩)) (hO : OwnAt E w t g cap D) (hz : D[i]? = some z) (hu : P.underlying ty = some d) (hd : (match d with | .struct _ | .array _ _ => true | _ => false) = true) (hinfo : (P.info? ty).map (·.size) = some E.k)
    (h : wpList P ops Q rest (a.put o.dst (.agg (E.enc z).toArray)) w) : wpList P ops Q (o :: rest) a w :=
  wpList_plain hgd fun _ hK => by
    unfold Oper.wp execOp
    simp only [ho, hx, Instr.loadAt, Instr.sureAddr, Sem.run_bind, Sem.run_pure, Result.andThen_ok, run_loadVar_elem (P := P) (E := E) (z := z) (g := g) (off := i * E.k) (fun j u hu => hO.cell hz hu) hu hd hinfo]
    exact hK _ _ h
end
end Go.Proofs.YtjohljmpcblpjaaGreatDoor
namespace Go.Proofs.YtjohljmpcblpjaaGreatDoor
open Go.RowKit
/-- the row went on in its own block, or a new block was made and nothing else has changed -/
def Grow1 (w w' : World) (v v' : Value) : Prop := (v'.ownBlock = v.ownBlock ∧ Kept (fun b => v.ownBlock = some b) w w') ∨ (v'.ownBlock = some w.heap.size ∧ Kept (fun _ => False) w w')
theorem run_append_keeps {P : Program} {α : Type} (E : Enc α) {w : World} (t ty e : TypeId) (base : Nat) (z : Value) (bytes : Nat) (ht : P.underlying t = some (.slice e))
    (hinfo : (P.info? e).map (fun i => (i.zero, i.size, i.bytes)) = some (some z, E.k, bytes)) (hzs : z.cells.size = E.k) (hb4 : bytes ≤ 4096) {v : Value} {D : List α} {x : α}
    (hown : w.ownsRow base e E.k v D.length (E.flat D)) {ad : Addr} {c : Nat} (hL : SlAt E w (.slice (some ad) 1 c) [x]) (h63 : D.length ≤ 1000000) (hbase : base ≤ w.heap.size) :
    ∃ v' w', (Builtin.append_ #[t, t] ty #[v, .slice (some ad) 1 c]).run P w = .ok v' w' ∧ w'.ownsRow base e E.k v' (D.length + 1) (E.flat (D ++ [x])) ∧ Grow1 w w' v v' := by
  obtain ⟨i, hi, hz, hsize, hby⟩ := info_parts hinfo
  obtain ⟨_, hn⟩ := hL.at_
  have hbb : (D.length + 1) * bytes ≤ 140737488355328 := by
    have : (D.length + 1) * bytes ≤ 1000001 * 4096 := Nat.mul_le_mul (by omega) hb4
    omega
  have hm1 : D.length + 1 ≤ maxLen := by unfold maxLen; omega
  obtain ⟨v', w', hr, h2, h3, _, h5⟩ := run_append_own_at (P := P) w base t ty e i z E.k bytes ht hi hz hsize hby hzs E.pos v D.length (E.flat D) hown ad 1 c (E.flat [x]) (E.flat_len [x]) hn (E.flat_one_cell [x]) hm1 hbb hbase
  refine ⟨v', w', hr, by rw [E.flat_append]; exact h2, ?_⟩
  rcases h5 with h5 | h5
  · exact .inl ⟨h5, Kept.grown (Kept.refl _ _) h3 (fun k e _ => e)⟩
  · right
    refine ⟨h5, ?_⟩
    have hs : Src P i.size t (.slice (some ad) 1 c) 1 (E.flat [x]) w := by
      rw [hsize]
      exact Src.ofSlice w ht ad 1 c (E.flat [x]) (E.flat_len [x]) hn (E.flat_one_cell [x])
    have hcap : ∀ old, old < D.length + 1 → Builtin.nextslicecap (D.length + 1) old * i.bytes ≤ 281474976710656 := fun old h => by
      have h1 := nextslicecap_le h
      rw [hby]
      have : Builtin.nextslicecap (D.length + 1) old * bytes ≤ 4000000 * 4096 := Nat.mul_le_mul (by omega) hb4
      omega
    rcases hown.2 with ⟨rfl, hxs⟩ | ⟨g, cap, cur, rfl, hbg, hg, hnc, hcm, hcs, htake⟩
    · have hD : D.length = 0 := by assumption
      rw [hD] at hcap
      have hrun := run_append_grow_src (P := P) (w := w) t t ty e i z ht hi hz none 0 0 [] (run_firstCells_none _ _ _ _ _) (.slice (some ad) 1 c) 1 (E.flat [x]) hs (by omega) (by omega) (hcap 0 (by omega))
      rw [hr] at hrun
      injection hrun with e1 e2
      rw [e2]
      exact ((Kept.refl _ _).drew).alloc _
    · by_cases hroom : D.length + 1 ≤ cap
      · exfalso
        have hblk : Blk w g e cur := hg
        have hsz : (D.length + 1) * E.k ≤ cap * E.k := Nat.mul_le_mul_right _ hroom
        have hl1 : (E.flat [x]).length = E.k := by rw [E.flat_len]; simp
        have hrun := run_append_room_src (P := P) (w := w) t t ty e i ht hi g 0 D.length cap (.slice (some ad) 1 c) 1 (E.flat [x]) hs hroom (fun j hj => by
          rw [hblk.cell, hsize]
          rw [hl1] at hj
          rw [Nat.add_mul] at hsz
          rw [Array.getElem?_eq_getElem (show 0 + D.length * E.k + j < cur.size by omega)]
          rfl) (fun j _ => hblk.frozen _)
        rw [hr] at hrun
        injection hrun with e1 e2
        rw [e1] at h5
        have hlt := hblk.lt
        have hgs : g = w.heap.size := by simpa [Value.ownBlock] using h5
        omega
      · have hold : (Builtin.firstCells i.size D.length (.slice (some ⟨g, 0, none⟩) D.length cap)).run P w.drew = .ok (E.flat D).toArray w.drew := by
          rw [hsize]
          refine run_firstCells_some _ E.k D.length ⟨g, 0, none⟩ D.length cap (E.flat D) hown.1 (fun j u hu => ?_)
          rw [Addr.add_lit, Nat.zero_add]
          show w.cell? ⟨g, j, none⟩ = some u
          have hblk : Blk w g e cur := hg
          rw [hblk.cell]
          rw [← htake, List.getElem?_take] at hu
          split at hu
          · simpa using hu
          · cases hu
        have hrun := run_append_grow_src (P := P) (w := w) t t ty e i z ht hi hz (some ⟨g, 0, none⟩) D.length cap (E.flat D) hold (.slice (some ad) 1 c) 1 (E.flat [x]) hs (by omega) (by omega) (hcap cap (by omega))
        rw [hr] at hrun
        injection hrun with e1 e2
        rw [e2]
        exact ((Kept.refl _ _).drew).alloc _
theorem wpList_append_keeps {P : Program} {α : Type} (E : Enc α) {w : World} {ops : Array Oper} {rest : List Oper} {o : Oper} {a : Act} {Q : Exit → Act → World → Prop} (hgd : o.guard = none) (s y : Operand) (t : TypeId)
    (ho : o.op = .call { callee := .builtin .append, args := #[s, y], argTypes := #[t, t] }) (base : Nat) (e : TypeId) (z : Value) (bytes : Nat) (ht : P.underlying t = some (.slice e))
    (hinfo : (P.info? e).map (fun i => (i.zero, i.size, i.bytes)) = some (some z, E.k, bytes)) (hzs : z.cells.size = E.k) (hb4 : bytes ≤ 4096) {v : Value} {D : List α} {x : α} {ad : Addr} {c : Nat} (hs : a.eval s = v) (hx : a.eval y = .slice (some ad) 1 c)
    (hown : w.ownsRow base e E.k v D.length (E.flat D)) (hL : SlAt E w (.slice (some ad) 1 c) [x]) (h63 : D.length ≤ 1000000) (hbase : base ≤ w.heap.size)
    (h : ∀ v' w', w'.ownsRow base e E.k v' (D.length + 1) (E.flat (D ++ [x])) → Grow1 w w' v v' → wpList P ops Q rest (a.put o.dst v') w') : wpList P ops Q (o :: rest) a w := by
  refine wpList_plain hgd fun K hK => ?_
  obtain ⟨v', w', hr, h2, h3⟩ := run_append_keeps (P := P) E t o.type e base z bytes ht hinfo hzs hb4 hown hL h63 hbase
  unfold Oper.wp execOp
  simp only [ho, resolve, invoke, builtin, Sem.run_bind, Sem.run_pure, Result.andThen_ok, List.map_toArray, List.map_cons, List.map_nil, hs, hx, hr]
  exact hK _ _ (h v' w' h2 h3)
end Go.Proofs.YtjohljmpcblpjaaGreatDoor
namespace Go.Proofs.YtjohljmpcblpjaaGreatDoor.Tr
open Go.RowKit Go.Proofs.YtjohljmpcblpjaaGreatDoor.St
/-- a slice's three numbers -/
structure Rw where
  a : Option Addr
  n : Nat
  c : Nat
def Rw.v (s : Rw) : Value := .slice s.a s.n s.c
def rowE : Enc Rw := ⟨1, fun s => [s.v], fun _ => rfl, by decide, fun s u hu => by rw [List.mem_singleton.1 hu]; rfl⟩
def ptrE : Enc Nat := ⟨1, fun b => [.pointer (some ⟨b, 0, none⟩)], fun _ => rfl, by decide, fun s u hu => by rw [List.mem_singleton.1 hu]; rfl⟩
def ndC (n : Nd) : List Value := [.int .i64 n.id.t, .int .i64 n.id.s, .int .i64 n.ref.t, .int .i64 n.ref.s, .int .i32 n.rune, .int .i64 n.st]
def nodeE : Enc Nd := ⟨6, ndC, fun _ => rfl, by decide, fun n u hu => by
  simp [ndC] at hu
  rcases hu with rfl | rfl | rfl | rfl | rfl | rfl <;> rfl⟩
/-- the rows of those that stand behind -/
structure Shape (w : World) (g : Nat) (L : List Nd) (A : ID → Nat) (S : ID → Rw) : Prop where
  root : w.cell? ⟨g, 0, none⟩ = some (S ID.zero).v
  beh : ∀ n ∈ L, w.cell? ⟨A n.id, 6, none⟩ = some (S n.id).v
  row : ∀ r, r = ID.zero ∨ r ∈ ids L → SlAt ptrE w (S r).v ((kids L r).map (fun n => A n.id))
theorem ex_least {P : Nat → Prop} : ∀ n, P n → ∃ m, P m ∧ ∀ k, P k → m ≤ k := by
  intro n
  induction n using Nat.strongRecOn with
  | ind n ih =>
    intro hn
    by_cases h : ∃ k, k < n ∧ P k
    · obtain ⟨k, hk, hP⟩ := h
      exact ih k hk hP
    · exact ⟨n, hn, fun k hk => Nat.le_of_not_lt fun hl => h ⟨k, hl, hk⟩⟩
open Classical in
/-- the least number of a kind; 0: there is none -/
noncomputable def least (P : Nat → Prop) : Nat := if h : ∃ m, P m ∧ ∀ k, P k → m ≤ k then h.choose else 0
theorem least_spec {P : Nat → Prop} (h : ∃ n, P n) : P (least P) := by
  obtain ⟨n, hn⟩ := h
  have h2 := ex_least n hn
  unfold least
  rw [dif_pos h2]
  exact h2.choose_spec.1
theorem least_le {P : Nat → Prop} {n : Nat} (h : P n) : least P ≤ n := by
  have h2 := ex_least n h
  unfold least
  rw [dif_pos h2]
  exact h2.choose_spec.2 n h
/-- a slice of pointers without its first -/
theorem SlAt.rest {w : World} {b o n c : Nat} {x : Nat} {L : List Nat} (h : SlAt ptrE w (.slice (some ⟨b, o, none⟩) (n + 1) c) (x :: L)) {o' : Nat} (ho : L = [] ∨ o' = o + 1) : SlAt ptrE w (.slice (some ⟨b, o', none⟩) n (c - 1)) L := by
  rcases h with ⟨h, _⟩ | ⟨y, d, h, h1, h2, h3, h4⟩
  · cases h
  · injection h with e1 e2 e3
    injection e1 with e1
    subst e1 e3
    have hn : n = L.length := by simpa using e2
    refine .inr ⟨⟨b, o', none⟩, c - 1, by rw [hn], by rw [List.length_cons] at h1; omega, by omega, fun _ => rfl, fun i z hz j u hu => ?_⟩
    rcases ho with rfl | rfl
    · simp at hz
    · have h5 := h4 (i + 1) z (by simpa using hz) j u hu
      have hk : ptrE.k = 1 := rfl
      rw [hk] at h5 ⊢
      show w.cell? ⟨b, o + 1 + (i * 1 + j), none⟩ = some u
      rw [show o + 1 + (i * 1 + j) = o + ((i + 1) * 1 + j) by omega]
      exact h5
end Go.Proofs.YtjohljmpcblpjaaGreatDoor.Tr
namespace Go.Proofs.YtjohljmpcblpjaaGreatDoor.Tr
open Go.RowKit Go.Proofs.YtjohljmpcblpjaaGreatDoor.St
theorem info_slice : (Tryz.prog.info? 161).map (fun i => (i.zero, i.size, i.bytes)) = some (some (.slice none 0 0), 1, 24) := by kernel_rfl
/-- one of the stack: a slice that reads those that are left -/
structure Left (w0g : Nat) (L : List Nd) (A : ID → Nat) (S : ID → Rw) (F : List T) (e : Rw × List T) : Prop where
  sub : ∀ t ∈ e.2, t ∈ subss F
  rd : ∀ wz, Shape wz w0g L A S → SlAt ptrE wz e.1.v (e.2.map (fun t => A t.n.id))
/-- where all's loop stands -/
def AllAt (L : List Nd) (A : ID → Nat) (S : ID → Rw) (F : List T) (g : Nat) (I : Nat → (Nat → Prop) → World → Prop) (m : Nat) (v : Value) (wr : World) : Prop :=
  ∃ (i : Nat) (X : Nat → Prop) (st : List (Rw × List T)) (gs cap : Nat), m = 2 * (L.length - i) + st.length ∧ i ≤ L.length ∧ v = .slice (some ⟨gs, 0, none⟩) st.length cap ∧ X gs ∧ OwnAt rowE wr 161 gs cap (st.map (·.1)) ∧ (∀ e ∈ st, Left g L A S F e) ∧ L.drop i = st.reverse.flatMap (fun e => flats e.2) ∧ st.length ≤ i + 1 ∧ I i X wr
theorem left_root {g : Nat} {L : List Nd} {A : ID → Nat} {S : ID → Rw} {F : List T} (hF : flats F = L) (hw : WFs ID.zero F) : Left g L A S F (S ID.zero, F) :=
  ⟨fun t ht => mem_subss ht, fun wz hs => by
    have := hs.row ID.zero (.inl rfl)
    rw [← hF, kids_root hw, List.map_map] at this
    exact this⟩
theorem left_kids {g : Nat} {L : List Nd} {A : ID → Nat} {S : ID → Rw} {F : List T} (hF : flats F = L) (hw : WFs ID.zero F) (hnd : (ids L).Nodup) {t : T} (ht : t ∈ subss F) : Left g L A S F (S t.n.id, t.ks) :=
  ⟨fun u hu => subss_trans F ht (by rw [subs_eq]; exact List.mem_cons_of_mem _ (mem_subss hu)), fun wz hs => by
    have hm : t.n ∈ flats F := by rw [← subss_flat]; exact List.mem_map.2 ⟨t, ht, rfl⟩
    have := hs.row t.n.id (.inr (by rw [← hF]; exact List.mem_map.2 ⟨t.n, hm, rfl⟩))
    rw [← hF, kids_subs F hw (by rw [hF]; exact hnd) t ht, List.map_map] at this
    exact this⟩
theorem Left.rest {g : Nat} {L : List Nd} {A : ID → Nat} {S : ID → Rw} {F : List T} {s : Rw} {t : T} {ts : List T} {b o o' c : Nat} (h : Left g L A S F (s, t :: ts)) (hsv : s.v = .slice (some ⟨b, o, none⟩) (ts.length + 1) c) (hc : ts.length + 1 ≤ c) (ho : c = 1 ∨ o' = o + 1) : Left g L A S F (⟨some ⟨b, o', none⟩, ts.length, c - 1⟩, ts) :=
  ⟨fun u hu => h.sub u (List.mem_cons_of_mem _ hu), fun wz hs => by
    have h1 : SlAt ptrE wz s.v (A t.n.id :: ts.map (fun t => A t.n.id)) := h.rd wz hs
    rw [hsv] at h1
    refine SlAt.rest h1 ?_
    rcases ho with rfl | rfl
    · have : ts = [] := List.length_eq_zero_iff.1 (by omega)
      exact .inl (by rw [this]; rfl)
    · exact .inr rfl⟩
theorem own_last {w : World} {ty : TypeId} {gs cap : Nat} {D : List Rw} {s s' : Rw} (h : OwnAt rowE w ty gs cap (D ++ [s])) : OwnAt rowE (w.setCell ⟨gs, D.length, none⟩ s'.v) ty gs cap (D ++ [s']) := by
  have h1 := h.set1of3 (i := D.length) (m := 0) (x := s) (y := s') (b := s'.v) (by simp) (by decide) rfl
  have hk : rowE.k = 1 := rfl
  rw [hk] at h1
  simpa using h1
theorem own_still {w w' : World} {ty : TypeId} {gs cap : Nat} {D : List Rw} (h : OwnAt rowE w ty gs cap D) (hk : w'.heap[gs]? = w.heap[gs]?) : OwnAt rowE w' ty gs cap D := by
  obtain ⟨cs, h1, h2⟩ := h
  exact ⟨cs, hk.trans h1, h2⟩
theorem left_snoc {g : Nat} {L : List Nd} {A : ID → Nat} {S : ID → Rw} {F : List T} {st' : List (Rw × List T)} {e e' : Rw × List T} (h : ∀ x ∈ st' ++ [e], Left g L A S F x) (h' : Left g L A S F e') : ∀ x ∈ st' ++ [e'], Left g L A S F x := fun x hx => by
  rcases List.mem_append.1 hx with h1 | h1
  · exact h x (List.mem_append_left _ h1)
  · rw [List.mem_singleton.1 h1]; exact h'
theorem own_val {w : World} {ty : TypeId} {gs cap n : Nat} {D : List Rw} (hn : D.length = n) (h : OwnAt rowE w ty gs cap D) : w.ownsRow 0 ty rowE.k (.slice (some ⟨gs, 0, none⟩) n cap) D.length (rowE.flat D) := by
  subst hn
  exact h.owns (Nat.zero_le _)
theorem lit_row (w : World) (ty : TypeId) (s : Rw) : SlAt rowE (w.alloc (.cells #[.slice s.a s.n s.c] ty)) (.slice (some ⟨w.heap.size, 0, none⟩) 1 1) [s] := by
  have hb := Blk.new w ty #[.slice s.a s.n s.c]
  refine .inr ⟨⟨w.heap.size, 0, none⟩, 1, rfl, Nat.le_refl _, by decide, fun _ => rfl, fun i y hy j u hu => ?_⟩
  cases i with
  | zero =>
    have e1 : s = y := by simpa using hy
    subst e1
    cases j with
    | zero => have : s.v = u := by simpa [rowE] using hu
              rw [← this]; exact hb.cell' rfl
    | succ j => simp [rowE] at hu
  | succ i => simp at hy
theorem left_snoc2 {g : Nat} {L : List Nd} {A : ID → Nat} {S : ID → Rw} {F : List T} {st : List (Rw × List T)} {e : Rw × List T} (h : ∀ x ∈ st, Left g L A S F x) (h' : Left g L A S F e) : ∀ x ∈ st ++ [e], Left g L A S F x := fun x hx => by
  rcases List.mem_append.1 hx with h1 | h1
  · exact h x h1
  · rw [List.mem_singleton.1 h1]; exact h'
theorem all_pushed {L : List Nd} {A : ID → Nat} {S : ID → Rw} {F : List T} {g i n gs cap m : Nat} {I : Nat → (Nat → Prop) → World → Prop} {X : Nat → Prop} {w3 w4 : World} {v4 : Value} {st : List (Rw × List T)} {s : Rw} {ks : List T} {D : List Rw} {B : Rw}
    (ho : w4.ownsRow 0 161 rowE.k v4 (D.length + 1) (rowE.flat (D ++ [B]))) (hg : Grow1 w3 w4 (.slice (some ⟨gs, 0, none⟩) n cap) v4) (hD : D = st.map (·.1)) (hX : X gs) (hI : I (i + 1) (fun b => X b ∨ (w3.heap.size ≤ b ∧ b < w4.heap.size)) w4)
    (hB : B = s) (hlf : ∀ x ∈ st ++ [(s, ks)], Left g L A S F x) (hd : L.drop (i + 1) = (st ++ [(s, ks)]).reverse.flatMap (fun e => flats e.2)) (hil : i < L.length) (hst : st.length ≤ i + 1) (hm : st.length + 1 < m + 2) :
    ∃ k, k < 2 * (L.length - i) + m ∧ AllAt L A S F g I k v4 w4 := by
  subst hB hD
  obtain ⟨_, h⟩ := own_of ho
  rcases h with ⟨_, h⟩ | ⟨g4, c4, rfl, _, h⟩
  · simp at h
  · have hx4 : X g4 ∨ (w3.heap.size ≤ g4 ∧ g4 < w4.heap.size) := by
      rcases hg with ⟨h1, _⟩ | ⟨h1, _⟩
      · have : g4 = gs := by simpa [Value.ownBlock] using h1
        exact .inl (this ▸ hX)
      · have : g4 = w3.heap.size := by simpa [Value.ownBlock] using h1
        exact .inr ⟨by omega, h.lt⟩
    refine ⟨2 * (L.length - (i + 1)) + (st.length + 1), by omega, i + 1, _, st ++ [(B, ks)], g4, c4, by simp, by omega, by simp, hx4, by simpa using h, hlf, hd, by simp; omega, hI⟩
theorem grow_kept {X : Nat → Prop} {w w' : World} {gs n cap : Nat} {v : Value} (h : Grow1 w w' (.slice (some ⟨gs, 0, none⟩) n cap) v) (hX : X gs) : Kept X w w' := by
  rcases h with ⟨_, h⟩ | ⟨_, h⟩
  · exact h.mono fun b _ hb => by
      have : gs = b := by simpa [Value.ownBlock] using hb
      exact this ▸ hX
  · exact h.mono fun b _ hb => hb.elim
theorem row_eq {s : Rw} {n : Nat} (h : s.n = n) : (⟨s.a, n, s.c⟩ : Rw) = s := by subst h; rfl
theorem last_of {α : Type} (l : List α) : l = [] ∨ ∃ a e, l = a ++ [e] := by
  rcases List.eq_nil_or_concat l with h | ⟨a, b, h⟩
  · exact .inl h
  · exact .inr ⟨a, b, by rw [h, List.concat_eq_append]⟩
set_option maxRecDepth 100000 in
set_option maxHeartbeats 8000000 in
theorem all1_any {w : World} {L : List Nd} {A : ID → Nat} {S : ID → Rw} {pl g : Nat} (hdoc : Doc L) (hlen : L.length ≤ 900000) (k : FuncId) (caps : Array Value) (I : Nat → (Nat → Prop) → World → Prop) (Z : World → Prop)
    (hrd : ∀ i X w, I i X w → w.cell? ⟨pl, 0, none⟩ = some (.pointer (some ⟨g, 0, none⟩)) ∧ Shape w g L A S) (hgr : ∀ i X w w', I i X w → Kept X w w' → I i (fun b => X b ∨ (w.heap.size ≤ b ∧ b < w'.heap.size)) w')
    (hy : ∀ i X n w, L[i]? = some n → I i X w → Calls Tryz.prog k (#[.pointer (some ⟨A n.id, 0, none⟩)] ++ caps) w fun e w' => ∃ b, e = .returned (.bool b) ∧ (∀ x, X x → w'.heap[x]? = w.heap[x]?) ∧ w.heap.size ≤ w'.heap.size ∧ (b = true → I (i + 1) X w') ∧ (b = false → Z w'))
    (hen : ∀ args w, Sem.run Tryz.prog (callFunc k args) w = .ok (.enter k args) w) {X0 : Nat → Prop} (h : I 0 X0 w) :
    Calls Tryz.prog 140 #[.func (.func k) #[] caps, .pointer (some ⟨pl, 0, none⟩)] w fun e w' => e = .returned (.tuple #[]) ∧ ((∃ X, I L.length X w') ∨ Z w') := by
  obtain ⟨F, hF, hw, hnd⟩ := hdoc
  obtain ⟨x0, hs0⟩ := hrd 0 X0 w h
  have r0 : w.cell? ⟨g, 0, none⟩ = some (.slice (S ID.zero).a (S ID.zero).n (S ID.zero).c) := hs0.root
  have RD := Lib.hid hrd
  have GR := Lib.hid hgr
  have HY := Lib.hid hy
  have HF := Lib.hid (And.intro hF (And.intro hw hnd))
  have B1 := Lib.hid (Blk.new w 161 #[.slice (S ID.zero).a (S ID.zero).n (S ID.zero).c])
  have k1 : Kept X0 w (w.alloc (.cells #[.slice (S ID.zero).a (S ID.zero).n (S ID.zero).c] 161)) := (Kept.refl _ _).alloc _
  have I1 := Lib.hid (hgr _ _ _ _ h k1)
  clear hrd hgr hy hs0 h k1 hF hw hnd
  go_enter Tryz.func140, Tryz.ntmps140
  go_wp2_with fail
  go_loopw [3] (fun v wr => ∃ m, AllAt L A S F g I m v wr) (fun v wr => least (fun m => AllAt L A S F g I m v wr))
  case atStart =>
    refine ⟨_, 0, _, [(S ID.zero, F)], w.heap.size, 1, rfl, Nat.zero_le _, rfl, .inr ⟨Nat.le_refl _, by simp⟩, ⟨_, B1.out, rfl, Nat.le_refl _, by decide, fun i y hy j u hu => ?_⟩, fun e he => ?_, ?_, Nat.le_refl _, I1.out⟩
    · cases i with
      | zero =>
        have e1 : S ID.zero = y := by simpa using hy
        subst e1
        cases j with
        | zero => have : (S ID.zero).v = u := by simpa [rowE] using hu
                  rw [← this]; rfl
        | succ j => simp [rowE] at hu
      | succ i => simp at hy
    · rw [List.mem_singleton.1 he]; exact left_root HF.out.1 HF.out.2.1
    · simp [HF.out.1]
  case round =>
    clear B1 I1
    obtain ⟨i, X, st, gs, cap, hm, hi, rfl, hX, hO, hlf, hdr, hsl, hI⟩ := least_spec hrel
    have HM := Lib.hid hm
    clear hrel hm
    rcases last_of st with rfl | ⟨st', ⟨s, ts⟩, rfl⟩
    · have hiL : i = L.length := by
        have h1 : L.drop i = [] := by simpa using hdr
        have h2 := List.drop_eq_nil_iff.1 h1
        omega
      subst hiL
      have FI := Lib.hid hI
      clear hI hO hdr HM
      go_wp2_with fail
      go_end0
      exact ⟨rfl, .inl ⟨_, FI.out⟩⟩
    have hl1 : (st' ++ [(s, ts)]).length = st'.length + 1 := by simp
    rw [hl1] at hsl HM
    rw [hl1]
    have hdr2 : L.drop i = flats ts ++ st'.reverse.flatMap (fun e => flats e.2) := by simpa using hdr
    have cp : wr.cell? ⟨gs, st'.length, none⟩ = some s.v := by
      have := hO.cell (i := st'.length) (j := 0) (x := s) (by simp) (u := s.v) rfl
      have hk : rowE.k = 1 := rfl
      rw [hk] at this
      simpa using this
    have fz := hO.frozen st'.length
    obtain ⟨hcell, hsh⟩ := RD.out _ _ _ hI
    have LF := Lib.hid hlf
    have hlast := hlf (s, ts) (by simp)
    have hrd0 : SlAt ptrE wr s.v (ts.map (fun t => A t.n.id)) := hlast.rd wr hsh
    have LA := Lib.hid hlast
    have SH := Lib.hid hsh
    have HI := Lib.hid hI
    have HO := Lib.hid hO
    have HD := Lib.hid hdr2
    have hcl := hO.le
    rw [List.length_map, hl1] at hcl
    have hst0 : (0 : Int) < (st'.length : Int) + 1 := by omega
    clear hlf hlast hsh hI hO hdr hdr2
    cases ts with
    | nil =>
      obtain ⟨sa, sc, hsv, _, _⟩ := hrd0.sl
      simp only [List.map_nil, List.length_nil] at hsv
      rw [hsv] at cp
      clear hrd0
      have NX : Hid (AllAt L A S F g I (2 * (L.length - i) + st'.length) (.slice (some ⟨gs, 0, none⟩) st'.length cap) wr) := Lib.hid
        ⟨i, X, st', gs, cap, rfl, hi, rfl, hX, by
          have := HO.out.take st'.length
          simpa using this, fun e he => LF.out e (List.mem_append_left _ he), by simpa [flats] using HD.out, by omega, HI.out⟩
      have hs1 : st'.length ≤ cap := by omega
      go_wp2_with fail
      go_roundw
      case rel => exact ⟨_, NX.out⟩
      case measure =>
        have h1 := least_le (P := fun m => AllAt L A S F g I m (.slice (some ⟨gs, 0, none⟩) st'.length cap) wr) NX.out
        have h2 := HM.out
        omega
    | cons t ts =>
      obtain ⟨b, o, c, hsv, hc1, hc2, hb, hcs⟩ := hrd0.one (by simp)
      simp only [List.map_cons, List.length_cons, List.length_map] at hsv hc1
      rw [hsv] at cp
      have p0 : wr.cell? ⟨b, o, none⟩ = some (.pointer (some ⟨A t.n.id, 0, none⟩)) := by
        have := hcs 0 (A t.n.id) (by simp) 0 _ rfl
        simpa using this
      have hti : L[i]? = some t.n := by
        have := HD.out
        rw [show flats (t :: ts) = t.n :: (flats t.ks ++ flats ts) by show flat t ++ flats ts = _; rw [flat_eq]; rfl] at this
        have h2 := congrArg (fun l => l[0]?) this
        simpa using h2
      have hdn : L.drop (i + 1) = flats t.ks ++ (flats ts ++ st'.reverse.flatMap (fun e => flats e.2)) := by
        have := HD.out
        rw [show flats (t :: ts) = t.n :: (flats t.ks ++ flats ts) by show flat t ++ flats ts = _; rw [flat_eq]; rfl] at this
        have h2 := congrArg List.tail this
        rw [List.tail_drop] at h2
        rw [h2]
        simp
      have hts := LA.out.sub t List.mem_cons_self
      have hc0 : ts.length + 1 ≤ c := hc1
      have HTI := Lib.hid hti
      have HDN := Lib.hid hdn
      have HTS := Lib.hid hts
      have HSV := Lib.hid hsv
      have HCB := Lib.hid hb
      clear hti hdn hts hrd0 hcs hsv hb
      have hn0 : ¬ ((ts.length : Int) + 1 = 0) := by omega
      have hs0 : (0 : Int) < (ts.length : Int) + 1 := by omega
      have hs2 : st'.length < cap := by omega
      have HO2 : Hid (OwnAt rowE wr 161 gs cap (st'.map (·.1) ++ [s])) := Lib.hid (by have := HO.out; simpa using this)
      have hlm : (st'.map (·.1)).length = st'.length := List.length_map _
      go_wp2_with fail
      case inl =>
        obtain rfl : c = 1 := by assumption
        have S1 := Lib.hid (own_last (s' := ⟨some ⟨b, o, none⟩, ts.length, 0⟩) HO2.out)
        have k1 : Kept X wr (wr.setCell ⟨gs, st'.length, none⟩ (.slice (some ⟨b, o, none⟩) ts.length (0))) := (Kept.refl _ _).setCell (fun _ => hX) _
        have LR := Lib.hid (LA.out.rest (o' := o) HSV.out hc0 (.inl rfl))
        have hI1 := GR.out _ _ _ _ HI.out k1
        have hy1 := HY.out _ _ _ _ HTI.out hI1
        have XG := Lib.hid (Or.inl (b := (wr.heap.size ≤ gs ∧ gs < (wr.setCell ⟨gs, st'.length, none⟩ (.slice (some ⟨b, o, none⟩) ts.length (0))).heap.size)) hX)
        clear k1 hI1
        refine hy1.mono ?_
        clear hy1
        rintro e w2 ⟨bb, rfl, hk2, hz2, ht, hf⟩
        have O2 := Lib.hid (own_still (w' := w2) S1.out (by rw [hlm]; exact hk2 gs XG.out))
        clear hk2 hz2 S1
        cases bb with
        | false =>
          have Z2 := Lib.hid (hf rfl)
          clear ht hf cp p0 fz hcell
          go_wp2_with fail
          refine bodyPost_ret (results_none rfl _ _ _) rfl ?_
          exact ⟨rfl, .inr Z2.out⟩
        | true =>
          have I2 := Lib.hid (ht rfl)
          clear ht hf cp p0 fz hcell
          obtain ⟨_, hsh2⟩ := RD.out _ _ _ I2.out
          have x6 : w2.cell? ⟨A t.n.id, 6, none⟩ = some (.slice (S t.n.id).a (S t.n.id).n (S t.n.id).c) := hsh2.beh t.n (List.mem_of_getElem? HTI.out)
          have LK := Lib.hid (left_kids (g := g) (A := A) (S := S) HF.out.1 HF.out.2.1 HF.out.2.2 HTS.out)
          have hrow : SlAt ptrE w2 (.slice (S t.n.id).a (S t.n.id).n (S t.n.id).c) (t.ks.map (fun t => A t.n.id)) := LK.out.rd w2 hsh2
          have hrn : (S t.n.id).n = t.ks.length := by
            obtain ⟨_, _, h1, _, _⟩ := hrow.sl
            injection h1 with _ h2 _
            simpa using h2
          rw [hrn] at x6
          clear hrow hsh2
          have hil : i < L.length := (List.getElem?_eq_some_iff.1 HTI.out).1
          by_cases hks : t.ks = []
          · have hk0 : t.ks.length = 0 := by rw [hks]; rfl
            rw [hk0] at x6
            have NX : Hid (AllAt L A S F g I (2 * (L.length - (i + 1)) + (st'.length + 1)) (.slice (some ⟨gs, 0, none⟩) (st'.length + 1) cap) w2) := Lib.hid
              ⟨i + 1, _, st' ++ [(_, ts)], gs, cap, by simp, by omega, by simp, XG.out, by simpa using O2.out, left_snoc LF.out LR.out, by rw [HDN.out, hks]; simp [flats], by simp; omega, I2.out⟩
            go_wp2_with fail
            go_roundw
            case rel => exact ⟨_, NX.out⟩
            case measure =>
              have h1 := least_le (P := fun m => AllAt L A S F g I m (.slice (some ⟨gs, 0, none⟩) (st'.length + 1) cap) w2) NX.out
              have h2 := HM.out
              omega
          · have hk0 : (0 : Int) < (t.ks.length : Int) := by
              have := List.length_pos_iff.2 hks
              omega
            have LQ := Lib.hid (lit_row w2 161 ⟨(S t.n.id).a, t.ks.length, (S t.n.id).c⟩)
            have k3 : Kept (fun _ => False) w2 (w2.alloc (.cells #[.slice (S t.n.id).a t.ks.length (S t.n.id).c] 161)) := (Kept.refl _ _).alloc _
            have hO3 := O2.out.keep k3 (fun h => h)
            have O3 := Lib.hid (own_val (n := st'.length + 1) (by simp) hO3)
            have RL : Hid ((st'.map (·.1) ++ [(⟨some ⟨b, o, none⟩, ts.length, 0⟩ : Rw)]).length ≤ 1000000) := Lib.hid (by simp; omega)
            have I3 := Lib.hid (GR.out _ _ _ _ I2.out (k3.mono (fun _ _ h => h.elim)))
            clear k3 hO3
            go_wp2_with (at_builtin; (refine wpList_append_keeps rowE rfl (.tmp 52) (.tmp 57) 215 rfl 0 161 (.slice none 0 0) 24 Tryz.underlying215 info_slice rfl (by decide) rfl rfl O3.out LQ.out RL.out (Nat.zero_le _) ?_); (intro v4 w4 ho4 hg4))
            have NX : Hid (∃ n, n < 2 * (L.length - i) + (st'.length + 1) ∧ AllAt L A S F g I n v4 w4) := Lib.hid (by
              have hd : L.drop (i + 1) = (st' ++ [((⟨some ⟨b, o, none⟩, ts.length, 0⟩ : Rw), ts)] ++ [(S t.n.id, t.ks)]).reverse.flatMap (fun e => flats e.2) := by rw [HDN.out]; simp
              have hlf := left_snoc2 (left_snoc LF.out LR.out) LK.out
              exact all_pushed (st := st' ++ [(_, ts)]) ho4 hg4 (by simp) (.inl XG.out) (GR.out _ _ _ _ I3.out (grow_kept hg4 (.inl XG.out))) (row_eq hrn) hlf hd hil (by simp; omega) (by simp))
            obtain ⟨n4, NX1, NX2⟩ := NX.out
            have N2 := Lib.hid NX2
            clear NX NX2 ho4 hg4
            go_roundw
            case rel => exact ⟨_, N2.out⟩
            case measure =>
              have h1 := least_le (P := fun m => AllAt L A S F g I m v4 w4) N2.out
              have h2 := HM.out
              omega
      case inr =>
        have S1 := Lib.hid (own_last (s' := ⟨some ⟨b, (o + 1), none⟩, ts.length, c - 1⟩) HO2.out)
        have k1 : Kept X wr (wr.setCell ⟨gs, st'.length, none⟩ (.slice (some ⟨b, (o + 1), none⟩) ts.length (c - 1))) := (Kept.refl _ _).setCell (fun _ => hX) _
        have LR := Lib.hid (LA.out.rest (o' := (o + 1)) HSV.out hc0 (.inr rfl))
        have hI1 := GR.out _ _ _ _ HI.out k1
        have hy1 := HY.out _ _ _ _ HTI.out hI1
        have XG := Lib.hid (Or.inl (b := (wr.heap.size ≤ gs ∧ gs < (wr.setCell ⟨gs, st'.length, none⟩ (.slice (some ⟨b, (o + 1), none⟩) ts.length (c - 1))).heap.size)) hX)
        clear k1 hI1
        refine hy1.mono ?_
        clear hy1
        rintro e w2 ⟨bb, rfl, hk2, hz2, ht, hf⟩
        have O2 := Lib.hid (own_still (w' := w2) S1.out (by rw [hlm]; exact hk2 gs XG.out))
        clear hk2 hz2 S1
        cases bb with
        | false =>
          have Z2 := Lib.hid (hf rfl)
          clear ht hf cp p0 fz hcell
          go_wp2_with fail
          refine bodyPost_ret (results_none rfl _ _ _) rfl ?_
          exact ⟨rfl, .inr Z2.out⟩
        | true =>
          have I2 := Lib.hid (ht rfl)
          clear ht hf cp p0 fz hcell
          obtain ⟨_, hsh2⟩ := RD.out _ _ _ I2.out
          have x6 : w2.cell? ⟨A t.n.id, 6, none⟩ = some (.slice (S t.n.id).a (S t.n.id).n (S t.n.id).c) := hsh2.beh t.n (List.mem_of_getElem? HTI.out)
          have LK := Lib.hid (left_kids (g := g) (A := A) (S := S) HF.out.1 HF.out.2.1 HF.out.2.2 HTS.out)
          have hrow : SlAt ptrE w2 (.slice (S t.n.id).a (S t.n.id).n (S t.n.id).c) (t.ks.map (fun t => A t.n.id)) := LK.out.rd w2 hsh2
          have hrn : (S t.n.id).n = t.ks.length := by
            obtain ⟨_, _, h1, _, _⟩ := hrow.sl
            injection h1 with _ h2 _
            simpa using h2
          rw [hrn] at x6
          clear hrow hsh2
          have hil : i < L.length := (List.getElem?_eq_some_iff.1 HTI.out).1
          by_cases hks : t.ks = []
          · have hk0 : t.ks.length = 0 := by rw [hks]; rfl
            rw [hk0] at x6
            have NX : Hid (AllAt L A S F g I (2 * (L.length - (i + 1)) + (st'.length + 1)) (.slice (some ⟨gs, 0, none⟩) (st'.length + 1) cap) w2) := Lib.hid
              ⟨i + 1, _, st' ++ [(_, ts)], gs, cap, by simp, by omega, by simp, XG.out, by simpa using O2.out, left_snoc LF.out LR.out, by rw [HDN.out, hks]; simp [flats], by simp; omega, I2.out⟩
            go_wp2_with fail
            go_roundw
            case rel => exact ⟨_, NX.out⟩
            case measure =>
              have h1 := least_le (P := fun m => AllAt L A S F g I m (.slice (some ⟨gs, 0, none⟩) (st'.length + 1) cap) w2) NX.out
              have h2 := HM.out
              omega
          · have hk0 : (0 : Int) < (t.ks.length : Int) := by
              have := List.length_pos_iff.2 hks
              omega
            have LQ := Lib.hid (lit_row w2 161 ⟨(S t.n.id).a, t.ks.length, (S t.n.id).c⟩)
            have k3 : Kept (fun _ => False) w2 (w2.alloc (.cells #[.slice (S t.n.id).a t.ks.length (S t.n.id).c] 161)) := (Kept.refl _ _).alloc _
            have hO3 := O2.out.keep k3 (fun h => h)
            have O3 := Lib.hid (own_val (n := st'.length + 1) (by simp) hO3)
            have RL : Hid ((st'.map (·.1) ++ [(⟨some ⟨b, (o + 1), none⟩, ts.length, c - 1⟩ : Rw)]).length ≤ 1000000) := Lib.hid (by simp; omega)
            have I3 := Lib.hid (GR.out _ _ _ _ I2.out (k3.mono (fun _ _ h => h.elim)))
            clear k3 hO3
            go_wp2_with (at_builtin; (refine wpList_append_keeps rowE rfl (.tmp 52) (.tmp 57) 215 rfl 0 161 (.slice none 0 0) 24 Tryz.underlying215 info_slice rfl (by decide) rfl rfl O3.out LQ.out RL.out (Nat.zero_le _) ?_); (intro v4 w4 ho4 hg4))
            have NX : Hid (∃ n, n < 2 * (L.length - i) + (st'.length + 1) ∧ AllAt L A S F g I n v4 w4) := Lib.hid (by
              have hd : L.drop (i + 1) = (st' ++ [((⟨some ⟨b, (o + 1), none⟩, ts.length, c - 1⟩ : Rw), ts)] ++ [(S t.n.id, t.ks)]).reverse.flatMap (fun e => flats e.2) := by rw [HDN.out]; simp
              have hlf := left_snoc2 (left_snoc LF.out LR.out) LK.out
              exact all_pushed (st := st' ++ [(_, ts)]) ho4 hg4 (by simp) (.inl XG.out) (GR.out _ _ _ _ I3.out (grow_kept hg4 (.inl XG.out))) (row_eq hrn) hlf hd hil (by simp; omega) (by simp))
            obtain ⟨n4, NX1, NX2⟩ := NX.out
            have N2 := Lib.hid NX2
            clear NX NX2 ho4 hg4
            go_roundw
            case rel => exact ⟨_, N2.out⟩
            case measure =>
              have h1 := least_le (P := fun m => AllAt L A S F g I m v4 w4) N2.out
              have h2 := HM.out
              omega
end Go.Proofs.YtjohljmpcblpjaaGreatDoor.Tr
