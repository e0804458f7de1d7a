/- A document in memory, whole: its blocks, its map, its rows. slices.Clone of identifiers and of runs; slices.IndexFunc of identifiers that are none. slices.IndexFunc and slices.DeleteFunc of the identifiers that are none, on a row of the call's own. -/
import Derived.Test.YtlafodnaifghcaaK7
import Derived.Test.YtlafodnaifghcaaChecked
import Derived.WalkKit
import Derived.ProofKit
import Derived.OpenShut
import Derived.ChangeOld
import Derived.Below
import Derived.StillTailTactics
import Derived.Lib.Hide
import Derived.Test.YtlafodnaifghcaaK5
import Derived.OwnWalk
import Derived.WalkSpells
import Derived.Laws.IdiomCopy
import Derived.Shelf.Abstract
namespace Go.Proofs.Ytlafodnaifghcaa.Tr
open Go.RowKit Go.Proofs.Ytlafodnaifghcaa.St
theorem eqIn_id (x y : ID) (w : World) : (Op.equal 27 (idV x) (idV y)).run Try.prog w = .ok (decide (x = y)) w := by
  have h : decide (x = y) = (x.t == y.t && x.s == y.s) := by
    rw [Bool.eq_iff_iff]
    simp [ID.ext_iff]
  rw [h]
  obtain ⟨a, b⟩ := x
  obtain ⟨c, d⟩ := y
  show (Op.equalIn 10000 27 (.agg #[.int .i64 a, .int .i64 b]) (.agg #[.int .i64 c, .int .i64 d])).run Try.prog w = _
  go_simp
  by_cases h1 : a = c
  · by_cases h2 : b = d
    · simp [h1, h2]
    · simp [h1, h2]
  · simp [h1]
def keyI : KeyE Try.prog 27 ID where
  enc := idV
  check := fun _ _ _ => by kernel_rfl
  now := fun k x d hd => .inl (by
    have e : Try.prog.underlying 27 = some d := hd
    rw [Try.underlying27] at e
    cases e
    rfl)
  ask := eqIn_id
  bits := fun k => by simp [idV, Instr.sameBits]
  und := ⟨_, Try.underlying27⟩
/-- a row of pointers, owned or none -/
def RowAt (w : World) (s : Rw) (D : List Nat) : Prop :=
  (s = ⟨none, 0, 0⟩ ∧ D = []) ∨ ∃ b cap, s = ⟨some ⟨b, 0, none⟩, D.length, cap⟩ ∧ OwnAt ptrE w 75 b cap D
def Rw.blk (s : Rw) : Option Nat := s.a.map (·.block)
/-- those that stand behind: the beginning and the elements -/
def Ref (L : List Nd) (r : ID) : Prop := r = ID.zero ∨ r ∈ ids L
/-- a document in memory -/
structure TAt (w : World) (g : Nat) (L : List Nd) (A : ID → Nat) (S : ID → Rw) (mp : Option Nat) : Prop where
  top : Blk w g 88 #[(S ID.zero).v, .map mp]
  elt : ∀ n ∈ L, Blk w (A n.id) 78 (ndC n ++ [(S n.id).v]).toArray
  row : ∀ r, Ref L r → RowAt w (S r) ((kids L r).map (fun n => A n.id))
  by_ : (mp = none ∧ L = []) ∨ ∃ b kvs, mp = some b ∧ MapK keyI w b kvs ∧ KeysOk kvs ∧ kvs.length = L.length ∧ ∀ x, getK kvs x = if x ∈ ids L then some (.pointer (some ⟨A x, 0, none⟩)) else none
  one : ∀ x ∈ ids L, ∀ y ∈ ids L, A x = A y → x = y
  far : ∀ x y, Ref L x → Ref L y → ∀ b, (S x).blk = some b → (S y).blk = some b → x = y
/-- the document's blocks -/
def foot (g : Nat) (L : List Nd) (A : ID → Nat) (S : ID → Rw) (mp : Option Nat) (b : Nat) : Prop :=
  b = g ∨ mp = some b ∨ (∃ x ∈ ids L, b = A x) ∨ ∃ r, Ref L r ∧ (S r).blk = some b
variable {w w' : World} {g : Nat} {L : List Nd} {A : ID → Nat} {S : ID → Rw} {mp : Option Nat}
theorem RowAt.keep {X : Nat → Prop} {s : Rw} {D : List Nat} (h : RowAt w s D) (hk : Kept X w w') (hs : ∀ b, s.blk = some b → ¬ X b) : RowAt w' s D := by
  rcases h with h | ⟨b, cap, rfl, h⟩
  · exact .inl h
  · exact .inr ⟨b, cap, rfl, h.keep hk (hs b rfl)⟩
theorem RowAt.sl {s : Rw} {D : List Nat} (h : RowAt w s D) : SlAt ptrE w s.v D := by
  rcases h with ⟨rfl, rfl⟩ | ⟨b, cap, rfl, h⟩
  · exact .inl ⟨rfl, rfl⟩
  · exact h.slAt
theorem RowAt.lt {s : Rw} {D : List Nat} (h : RowAt w s D) {b : Nat} (hb : s.blk = some b) : b < w.heap.size := by
  rcases h with ⟨rfl, rfl⟩ | ⟨b', cap, rfl, h⟩
  · cases hb
  · cases hb; exact h.lt
theorem TAt.keep {X : Nat → Prop} (h : TAt w g L A S mp) (hk : Kept X w w') (hs : ∀ b, foot g L A S mp b → ¬ X b) : TAt w' g L A S mp where
  top := hk.blk (hs g (.inl rfl)) h.top
  elt := fun n hn => hk.blk (hs _ (.inr (.inr (.inl ⟨n.id, List.mem_map.2 ⟨n, hn, rfl⟩, rfl⟩)))) (h.elt n hn)
  row := fun r hr => (h.row r hr).keep hk fun b hb => hs b (.inr (.inr (.inr ⟨r, hr, hb⟩)))
  by_ := by
    rcases h.by_ with h1 | ⟨b, kvs, rfl, h1, h2⟩
    · exact .inl h1
    · exact .inr ⟨b, kvs, rfl, h1.keep hk (hs b (.inr (.inl rfl))), h2⟩
  one := h.one
  far := h.far
theorem TAt.lt (h : TAt w g L A S mp) : ∀ b, foot g L A S mp b → b < w.heap.size := by
  rintro b (rfl | rfl | ⟨x, hx, rfl⟩ | ⟨r, hr, hb⟩)
  · exact h.top.lt
  · rcases h.by_ with ⟨h1, _⟩ | ⟨b', kvs, h1, h2, _⟩
    · cases h1
    · cases h1; exact h2.lt
  · obtain ⟨n, hn, rfl⟩ := List.mem_map.1 hx
    exact (h.elt n hn).lt
  · exact (h.row r hr).lt hb
theorem TAt.still (h : TAt w g L A S mp) (hk : Kept (fun _ => False) w w') : TAt w' g L A S mp := h.keep hk fun _ _ h => h
theorem TAt.shape (h : TAt w g L A S mp) : Shape w g L A S where
  root := h.top.cell' rfl
  beh := fun n hn => (h.elt n hn).cell' (by simp [ndC])
  row := fun r hr => (h.row r hr).sl
theorem TAt.found (h : TAt w g L A S mp) {x : ID} (hx : x ∈ ids L) : ∃ b kvs, mp = some b ∧ MapK keyI w b kvs ∧ getK kvs x = some (.pointer (some ⟨A x, 0, none⟩)) := by
  rcases h.by_ with ⟨_, h1⟩ | ⟨b, kvs, rfl, h1, _, _, h2⟩
  · rw [h1] at hx; cases hx
  · exact ⟨b, kvs, rfl, h1, by rw [h2 x, if_pos hx]⟩
end Go.Proofs.Ytlafodnaifghcaa.Tr
namespace Go.Proofs.Ytlafodnaifghcaa.St
open Go.RowKit

def idE : Enc ID := ⟨2, fun a => [.int .i64 a.t, .int .i64 a.s], fun _ => rfl, by decide, fun x u hu => by simp at hu; rcases hu with rfl | rfl <;> rfl⟩
def runE : Enc Run := ⟨3, fun r => [.int .i64 r.id.t, .int .i64 r.id.s, .int .i64 r.c], fun _ => rfl, by decide, fun x u hu => by simp at hu; rcases hu with rfl | rfl | rfl <;> rfl⟩
theorem info_id : (Try.prog.info? 27).map (fun i => (i.zero, i.size, i.bytes)) = some (some (.agg #[.int .i64 0, .int .i64 0]), 2, 16) := by kernel_rfl
theorem info_run : (Try.prog.info? 61).map (fun i => (i.zero, i.size, i.bytes)) = some (some (.agg #[.int .i64 0, .int .i64 0, .int .i64 0]), 3, 24) := by kernel_rfl
set_option maxRecDepth 100000 in
set_option maxHeartbeats 1000000 in
theorem clone_id {w : World} {v : Value} {L : List ID} (h : SlAt idE w v L) (hb : L.length ≤ 1000000000) :
    Calls Try.prog 57 #[v] w fun e w' => ∃ v', e = .returned v' ∧ w'.ownsRow w.heap.size 27 2 v' L.length (idE.flat L) ∧ Kept (fun _ => False) w w' := by
  have q := fun (w : World) (a : Option Addr) (n c n' c' : Nat) => Lib.run_eql_slice_nil (P := Try.prog) w 79 _ a n c n' c' Try.underlying79
  obtain ⟨a, c, rfl, hle, hc⟩ := h.sl
  cases a with
  | none =>
    obtain ⟨rfl, _, rfl⟩ := h.none_
    clear h hb hc hle
    go_enter Try.func57, Try.ntmps57
    go_wp2
    go_ret
    exact ⟨_, rfl, World.ownsRow_nil _ _ _ _, Kept.refl _ _⟩
  | some x =>
    obtain ⟨_, hn⟩ := h.at_
    obtain ⟨i0, hi, hz0, hz1, hz2⟩ := info_parts info_id
    have hl := idE.flat_len L
    have h1 := idE.flat_one_cell L
    generalize idE.flat L = news at hn hl h1 ⊢
    generalize L.length = n at *
    have hl2 : news.length = n * 2 := hl
    have hn2 : ∀ j u, news[j]? = some u → (w.alloc (.cells #[] 27)).cell? (x.add j) = some u := fun j u hu => by
      have hc := hn j u hu
      rw [World.cell?_of_block (a := x.add j) (w := w)]
      · exact hc
      · exact Below.heap_alloc w _ _ (World.block_lt_of_cell? w _ hc)
    have N := Lib.hid hn2
    have I := Lib.hid hi
    have Z0 := Lib.hid hz0
    have Z1 := Lib.hid hz1
    have Z2 := Lib.hid hz2
    have HL := Lib.hid hl2
    have H1 := Lib.hid h1
    have h63 : 0 + n ≤ maxLen := by unfold maxLen; omega
    have hby : (0 + n) * 16 ≤ 140737488355328 := by omega
    clear hn hn2 hi hz0 hz1 hz2 hl hl2 h1 h hc
    go_enter Try.func57, Try.ntmps57
    go_wp2_with (at_builtin; refine wpList_append_own _ rfl _ _ 79 rfl w.heap.size 27 i0 (.agg #[.int .i64 0, .int .i64 0]) 2 16 Try.underlying79 I.out Z0.out Z1.out Z2.out rfl (by decide) _ _ _ rfl (World.ownsRow_made w #[] 0 (Nat.le_refl _) (Nat.zero_le _) (by simp)) x n c news rfl HL.out N.out H1.out h63 hby (by simp) ?_)
    intro v' w1 hown hgrow _
    go_wp2
    go_ret
    refine ⟨v', rfl, by simpa using hown, ?_⟩
    exact ((Kept.refl _ _).alloc _).grown hgrow (fun k e hk => by simp [Value.ownBlock] at e; omega)
theorem SlAt.run {w : World} {v : Value} {L : List Run} (h : SlAt runE w v L) (hn : 0 < L.length) : ∃ g o c, v = .slice (some ⟨g, o, none⟩) L.length c ∧ g < w.heap.size ∧ ∀ (i : Nat) (x : Run), L[i]? = some x →
    w.cell? ⟨g, o + i * 3, none⟩ = some (.int .i64 x.id.t) ∧ w.cell? ⟨g, o + i * 3 + 1, none⟩ = some (.int .i64 x.id.s) ∧ w.cell? ⟨g, o + i * 3 + 2, none⟩ = some (.int .i64 x.c) := by
  obtain ⟨g, o, c, rfl, _, _, hg, hc⟩ := h.one hn
  exact ⟨g, o, c, rfl, hg, fun i x hx => ⟨hc i x hx 0 _ rfl, hc i x hx 1 _ rfl, hc i x hx 2 _ rfl⟩⟩
theorem SlAt.id {w : World} {v : Value} {L : List ID} (h : SlAt idE w v L) (hn : 0 < L.length) : ∃ g o c, v = .slice (some ⟨g, o, none⟩) L.length c ∧ g < w.heap.size ∧ ∀ (i : Nat) (x : ID), L[i]? = some x →
    w.cell? ⟨g, o + i * 2, none⟩ = some (.int .i64 x.t) ∧ w.cell? ⟨g, o + i * 2 + 1, none⟩ = some (.int .i64 x.s) := by
  obtain ⟨g, o, c, rfl, _, _, hg, hc⟩ := h.one hn
  exact ⟨g, o, c, rfl, hg, fun i x hx => ⟨hc i x hx 0 _ rfl, hc i x hx 1 _ rfl⟩⟩
end Go.Proofs.Ytlafodnaifghcaa.St
namespace Go.Proofs.Ytlafodnaifghcaa
open Go.RowKit
section
variable {α : Type} {E : Enc α} {w : World} {t : TypeId} {g cap : Nat} {D : List α}
theorem Blk.setCells : ∀ (vs : List Value) (o : Nat) {w : World} {cs : Array Value}, Blk w g t cs → ∃ cs', Blk (w.setCells g o vs) g t cs' ∧ cs'.size = cs.size ∧ ∀ m, m < o → cs'[m]? = cs[m]?
  | [], o, w, cs, h => ⟨cs, h, rfl, fun _ _ => rfl⟩
  | v :: r, o, w, cs, h => by
    obtain ⟨cs', h1, h2, h3⟩ := Blk.setCells r (o + 1) (h.set_ o v)
    refine ⟨cs', h1, by simpa using h2, fun m hm => ?_⟩
    rw [h3 m (by omega), Array.getElem?_setIfInBounds_ne (by omega)]
theorem Kept.setCells (g : Nat) : ∀ (vs : List Value) (o : Nat) {w0 w : World}, Kept (· = g) w0 w → Kept (· = g) w0 (w.setCells g o vs)
  | [], _, _, _, h => h
  | v :: r, o, _, _, h => Kept.setCells g r (o + 1) (h.setCell (p := ⟨g, o, none⟩) (fun _ => rfl) v)
theorem run_clear_own {P : Program} (h : OwnAt E w t g cap D) {T e : TypeId} (ty : TypeId) (ht : P.underlying T = some (.slice e)) {z : Value} (hv : ∀ w, (zeroValue e).run P w = .ok z w) (hz : z.cells.size = E.k) (hz1 : ∀ u ∈ z.cells.toList, u.oneCell' = true)
    {i n c : Nat} (hn : i + n ≤ cap) : ∃ w', (Builtin.clear_ #[T] ty #[.slice (some ⟨g, i * E.k, none⟩) n c]).run P w = .ok (.tuple #[]) w' ∧ OwnAt E w' t g cap (D.take i) ∧ Kept (· = g) w w' := by
  rcases n with _ | m
  · refine ⟨w, ?_, h.take i, Kept.refl _ _⟩
    simp [Builtin.clear_, run_underlying ht]
  · have hsz : (Builtin.zeroCells z.cells (m + 1)).toList.length = (m + 1) * E.k := by simp [Builtin.zeroCells, hz]
    have hone : ∀ u ∈ (Builtin.zeroCells z.cells (m + 1)).toList, u.oneCell' = true := by
      intro u hu
      simp only [Builtin.zeroCells, Array.toList_map, List.mem_map] at hu
      obtain ⟨k, _, rfl⟩ := hu
      refine hz1 _ ?_
      have hk : k % z.cells.size < z.cells.size := Nat.mod_lt _ (by rw [hz]; exact E.pos)
      rw [getElem!_pos z.cells _ hk]
      exact Array.getElem_mem_toList hk
    have hO := h
    obtain ⟨cs, h1, h2, h3, h4, h5⟩ := h
    have hin : ∀ j, j < (m + 1) * E.k → i * E.k + j < cs.size := fun j hj => by
      have := Nat.mul_le_mul_right E.k hn
      rw [Nat.add_mul] at this
      omega
    have hst := run_storeCells_cells (P := P) g (i * E.k) (Builtin.zeroCells z.cells (m + 1)).toList 0 w (fun j hj => by rw [Nat.add_zero, h1.cell]; simp [hin j (by omega)]) (fun j hj => h1.frozen _) hone
    obtain ⟨cs', g1, g2, g3⟩ := Blk.setCells (Builtin.zeroCells z.cells (m + 1)).toList (i * E.k) h1
    refine ⟨w.setCells g (i * E.k) (Builtin.zeroCells z.cells (m + 1)).toList, ?_, ⟨cs', g1, by omega, by rw [List.length_take]; omega, h4, ?_⟩, Kept.setCells g _ _ (Kept.refl _ _)⟩
    · simp only [Nat.add_zero] at hst
      simp [Builtin.clear_, run_underlying ht, hv, hst]
    · intro a x hx j u hu
      rw [List.getElem?_take] at hx
      split at hx
      · rename_i ha
        have hj : j < E.k := by rw [← E.len x]; exact (List.getElem?_eq_some_iff.1 hu).1
        have := Nat.mul_le_mul_right E.k (show a + 1 ≤ i by omega)
        rw [Nat.add_mul] at this
        rw [g3 _ (by omega)]
        exact h5 a x hx j u hu
      · cases hx
end
namespace St
theorem OwnAt.id {w : World} {t : TypeId} {g cap : Nat} {D : List ID} (h : OwnAt idE w t g cap D) {i : Nat} {x : ID} (hx : D[i]? = some x) :
    w.cell? ⟨g, i * 2, none⟩ = some (.int .i64 x.t) ∧ w.cell? ⟨g, i * 2 + 1, none⟩ = some (.int .i64 x.s) := ⟨h.cell (j := 0) hx rfl, h.cell (j := 1) hx rfl⟩
/-- the place of the first that is none -/
def FirstBad (D : List ID) (i : Int) : Prop := (i = -1 ∧ ∀ x ∈ D, isB x = true) ∨ ∃ k : Nat, i = k ∧ k < D.length ∧ (∀ (j : Nat) x, j < k → D[j]? = some x → isB x = true) ∧ ∀ x, D[k]? = some x → isB x = false

set_option maxHeartbeats 1000000 in
theorem index_id {w : World} {t : TypeId} {g cap : Nat} {D : List ID} (h : OwnAt idE w t g cap D) (hb : D.length ≤ 1000000000) :
    Calls Try.prog 77 #[.slice (some ⟨g, 0, none⟩) D.length cap, .func (.func 58) #[] #[]] w fun e w' => ∃ i, e = .returned (.int .i64 i) ∧ FirstBad D i ∧ Grew w w' := by
  have eg : ∀ args w, (callFunc 58 args).run Try.prog w = .ok (.enter 58 args) w := enters_of Try.func58 (by kernel_rfl) rfl
  go_enter Try.func77, Try.ntmps77
  go_wp2_with fail
  go_loopw [8] (fun i wr => ∃ n : Nat, i = .int .i64 n ∧ n ≤ D.length ∧ (∀ (j : Nat) x, j < n → D[j]? = some x → isB x = true) ∧ Grew w wr) (fun i _ => D.length - (intOf i).toNat)
  case atStart => exact ⟨0, rfl, Nat.zero_le _, fun _ _ h => absurd h (Nat.not_lt_zero _), Grew.refl w⟩
  case round =>
    obtain ⟨n, rfl, hn, hall, hg⟩ := hrel
    have A := Lib.hid hall
    clear hall
    by_cases hlt : n < D.length
    · obtain ⟨x, hx⟩ := get_of_lt hlt
      obtain ⟨c0, c1⟩ := OwnAt.id (h.keep hg.kept (fun h => h)) hx
      have X := Lib.hid hx
      have hn0 : (0 : Int) ≤ n := by omega
      have hnl : (n : Int) < D.length := by omega
      clear hx
      cases hbx : isB x
      · have hc := is1_any x wr
        rw [hbx] at hc
        have B := Lib.hid hbx
        clear hbx
        go_wp2_with fail
        refine hc.mono ?_
        rintro e w2 ⟨rfl, hg2⟩
        go_wp2_with fail
        go_ret
        exact ⟨n, rfl, .inr ⟨n, rfl, hlt, A.out, fun y hy => by rw [X.out] at hy; cases hy; exact B.out⟩, hg.trans hg2⟩
      · have hc := is1_any x wr
        rw [hbx] at hc
        have B := Lib.hid hbx
        clear hbx
        go_wp2_with fail
        refine hc.mono ?_
        rintro e w2 ⟨rfl, hg2⟩
        go_wp2_with fail
        go_roundw
        case rel => exact ⟨n + 1, by go_num, by omega, fun j y hj hy => by
          rcases Nat.lt_succ_iff_lt_or_eq.1 hj with hj | rfl
          · exact A.out j y hj hy
          · rw [X.out] at hy; cases hy; exact B.out, hg.trans hg2⟩
        case measure => simp [intOf]; omega
    · have hge : D.length ≤ n := by omega
      go_wp2_with fail
      go_ret
      exact ⟨-1, rfl, .inl ⟨rfl, fun x hx => by
        obtain ⟨j, hj⟩ := List.getElem?_of_mem hx
        exact A.out j x (Nat.lt_of_lt_of_le (List.getElem?_eq_some_iff.1 hj).1 hge) hj⟩, hg⟩

theorem zero_id : ∀ w, (zeroValue 27).run Try.prog w = .ok (.agg #[.int .i64 0, .int .i64 0]) w := fun _ => by kernel_rfl
/-- what DeleteFunc keeps: i written, j looked at -/
structure DelInv (D : List ID) (i j : Nat) (X : List ID) : Prop where
  len : X.length = D.length
  low : X.take i = (D.take j).filter isB
  il : i = ((D.take j).filter isB).length
  lt : i < j
  high : ∀ m, j ≤ m → X[m]? = D[m]?
theorem DelInv.skip {D X : List ID} {i j : Nat} {x : ID} (h : DelInv D i j X) (hx : D[j]? = some x) (hb : isB x = false) : DelInv D i (j + 1) X := by
  have e : (D.take (j + 1)).filter isB = (D.take j).filter isB := by rw [List.take_add_one, hx, List.filter_append]; simp [hb]
  exact ⟨h.len, by rw [e]; exact h.low, by rw [e]; exact h.il, by have := h.lt; omega, fun m hm => h.high m (by omega)⟩
theorem DelInv.keep {D X : List ID} {i j : Nat} {x : ID} (h : DelInv D i j X) (hx : D[j]? = some x) (hb : isB x = true) : DelInv D (i + 1) (j + 1) (X.set i x) := by
  have hj : j < D.length := (List.getElem?_eq_some_iff.1 hx).1
  have hl := h.len
  have hij := h.lt
  have e : (D.take (j + 1)).filter isB = (D.take j).filter isB ++ [x] := by rw [List.take_add_one, hx, List.filter_append]; simp [hb]
  refine ⟨by simpa using hl, ?_, by rw [e, List.length_append, ← h.il]; rfl, by omega, fun m hm => ?_⟩
  · rw [e, ← h.low, List.take_add_one, List.take_set_of_le (Nat.le_refl _), List.getElem?_set_self (by omega)]
    rfl
  · rw [List.getElem?_set_ne (by omega)]
    exact h.high m (by omega)
theorem DelInv.start {D : List ID} {k : Nat} (h1 : ∀ (j : Nat) x, j < k → D[j]? = some x → isB x = true) (h2 : ∀ x, D[k]? = some x → isB x = false) (hk : k < D.length) : DelInv D k (k + 1) D := by
  obtain ⟨x, hx⟩ := get_of_lt hk
  have e0 : (D.take k).filter isB = D.take k := List.filter_eq_self.2 fun y hy => by
    obtain ⟨j, hj⟩ := List.getElem?_of_mem hy
    rw [List.getElem?_take] at hj
    split at hj
    · rename_i hjk; exact h1 j y hjk hj
    · cases hj
  have e : (D.take (k + 1)).filter isB = D.take k := by rw [List.take_add_one, hx, List.filter_append, e0]; simp [h2 x hx]
  exact ⟨rfl, e.symm, by rw [e, List.length_take]; omega, by omega, fun _ _ => rfl⟩
theorem DelInv.done {D X : List ID} {i : Nat} (h : DelInv D i D.length X) : X.take i = D.filter isB ∧ i = (D.filter isB).length := by
  have h1 := h.low
  have h2 := h.il
  rw [List.take_length] at h1 h2
  exact ⟨h1, h2⟩

set_option maxRecDepth 100000 in
set_option maxHeartbeats 1000000 in
theorem delete_id {w : World} {t : TypeId} {g cap : Nat} {D : List ID} (h : OwnAt idE w t g cap D) (hb : D.length ≤ 1000000000) :
    Calls Try.prog 56 #[.slice (some ⟨g, 0, none⟩) D.length cap, .func (.func 58) #[] #[]] w fun e w' => e = .returned (.slice (some ⟨g, 0, none⟩) (D.filter isB).length cap) ∧ OwnAt idE w' t g cap (D.filter isB) ∧ Kept (· = g) w w' := by
  have eg : ∀ args w, (callFunc 58 args).run Try.prog w = .ok (.enter 58 args) w := enters_of Try.func58 (by kernel_rfl) rfl
  have hle := h.le
  go_enter Try.func56, Try.ntmps56
  go_wp2_with fail
  refine (index_id h hb).mono ?_
  rintro e w1 ⟨i, rfl, hf, hg1⟩
  rcases hf with ⟨rfl, hall⟩ | ⟨k, rfl, hk, h1, h2⟩
  · have e0 : D.filter isB = D := List.filter_eq_self.2 fun y hy => hall y hy
    have E := Lib.hid e0
    clear hall e0
    go_wp2_with fail
    go_ret
    rw [E.out]
    exact ⟨rfl, h.keep hg1.kept (fun h => h), hg1.kept.mono (fun _ _ h => h.elim)⟩
  · have hne : ((k : Int) == -1) = false := beq_eq_false_iff_ne.2 (by omega)
    have I0 := Lib.hid (DelInv.start h1 h2 hk)
    clear h1 h2
    have hk63 : (k : Int) + 1 ≤ 9223372036854775807 := by omega
    go_wp2_with fail
    go_loopw [5, 6] (fun iv jv wr => ∃ (i j : Nat) (X : List ID), iv = .int .i64 i ∧ jv = .int .i64 j ∧ j ≤ D.length ∧ DelInv D i j X ∧ OwnAt idE wr t g cap X ∧ Kept (· = g) w wr) (fun _ jv _ => D.length - (intOf jv).toNat)
    case atStart => exact ⟨k, k + 1, D, rfl, by go_num, by omega, I0.out, h.keep hg1.kept (fun h => h), hg1.kept.mono (fun _ _ h => h.elim)⟩
    case round =>
      obtain ⟨i, j, X, rfl, rfl, hj, hI, hO, hkp⟩ := hrel
      have hij := hI.lt
      have hXl := hI.len
      have gne : g ≠ wr.heap.size := Nat.ne_of_lt hO.lt
      by_cases hlt : j < D.length
      · obtain ⟨x, hx⟩ := get_of_lt hlt
        obtain ⟨c0, c1⟩ := OwnAt.id hO ((hI.high j (Nat.le_refl _)).trans hx)
        obtain ⟨y, hy⟩ := get_of_lt (show i < X.length by omega)
        have hij2 : (0 : Int) ≤ i := by omega
        have hj0 : (0 : Int) ≤ j := by omega
        have hjl : (j : Int) < D.length := by omega
        have hil : (i : Int) < D.length := by omega
        have X0 := Lib.hid hx
        have Y0 := Lib.hid hy
        have XL := Lib.hid hXl
        have II := Lib.hid hI
        have hb1 := Blk.new wr 27 #[.int .i64 x.t, .int .i64 x.s]
        have hO1 := hO.keep (Kept.alloc (Kept.refl (fun _ => False) wr) (.cells #[.int .i64 x.t, .int .i64 x.s] 27)) (fun h => h)
        have hc := is1_any x (wr.alloc (.cells #[.int .i64 x.t, .int .i64 x.s] 27))
        clear hx hy hXl hI
        cases hbx : isB x
        · rw [hbx] at hc
          have B := Lib.hid hbx
          clear hbx hO1 hb1
          go_wp2_with fail
          refine hc.mono ?_
          rintro e w2 ⟨rfl, hg2⟩
          go_wp2_with fail
          go_roundw
          case rel => exact ⟨i, j + 1, X, rfl, by go_num, by omega, II.out.skip X0.out B.out, hO.keep ((Kept.alloc (Kept.refl (fun _ => False) wr) _).trans hg2.kept (fun _ _ h => h)) (fun h => h), (hkp.alloc _).trans hg2.kept (fun _ _ h => h.elim)⟩
          case measure => simp [intOf]; omega
        · rw [hbx] at hc
          have B := Lib.hid hbx
          have HB1 := Lib.hid hb1
          have HO1 := Lib.hid hO1
          clear hbx hO1 hb1
          go_wp2_with fail
          refine hc.mono ?_
          rintro e w2 ⟨rfl, hg2⟩
          have hb2 := hg2.box HB1.out
          have hO2 := HO1.out.keep hg2.kept (fun h => h)
          obtain ⟨a0, a1⟩ := OwnAt.id hO2 Y0.out
          have d0 : _ = some (Value.int .i64 x.t) := hb2.cell' (i := 0) rfl
          have d1 : _ = some (Value.int .i64 x.s) := hb2.cell' (i := 1) rfl
          have f0 := hO2.frozen (i * 2)
          have f1 := hO2.frozen (i * 2 + 1)
          have HO2 := Lib.hid hO2
          clear hb2 hO2
          go_wp2_with fail
          go_roundw
          case rel => exact ⟨i + 1, j + 1, X.set i x, by go_num, by go_num, by omega, II.out.keep X0.out B.out, OwnAt.set2 HO2.out (by have := XL.out; omega) rfl rfl, (((hkp.alloc _).trans hg2.kept (fun _ _ h => h.elim)).setCell (fun _ => rfl) _).setCell (fun _ => rfl) _⟩
          case measure => simp [intOf]; omega
      · obtain rfl : j = D.length := by omega
        obtain ⟨e1, e2⟩ := hI.done
        obtain ⟨w3, hcl, hO3, hk3⟩ := run_clear_own (P := Try.prog) hO 0 Try.underlying79 zero_id rfl (fun u hu => by rcases (show u = .int .i64 0 by simpa [Value.cells] using hu) with rfl; rfl) (i := i) (n := D.length - i) (c := cap - i) (by omega)
        have hcl2 : (Builtin.clear_ #[79] 0 #[.slice (some ⟨g, i * 2, none⟩) (D.length - i) (cap - i)]).run Try.prog wr = .ok (.tuple #[]) w3 := hcl
        have hij2 : (0 : Int) ≤ i := by omega
        have hil : (i : Int) < D.length := by omega
        have hic : i < cap := by omega
        rw [e1] at hO3
        have E2 := Lib.hid e2
        have O3 := Lib.hid hO3
        have K3 := Lib.hid (hkp.trans hk3 (fun _ _ h => h))
        have XL := Lib.hid hXl
        clear e1 e2 hI hO3 hk3 hkp hcl hO hlt hXl
        go_wp2_with fail
        go_ret
        exact ⟨by rw [← E2.out]; rfl, O3.out, K3.out⟩
end St
end Go.Proofs.Ytlafodnaifghcaa
