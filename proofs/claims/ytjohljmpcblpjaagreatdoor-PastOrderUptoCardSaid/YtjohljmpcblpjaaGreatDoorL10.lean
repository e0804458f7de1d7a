/- A document in memory, whole: its blocks, its map, its rows. may, list, higher. (*tree.Tree).all: the iterator it hands back. What a caller of all keeps through its rounds: its boxes, the document. -/
import Derived.Test.YtjohljmpcblpjaaGreatDoorL8
import Derived.Test.YtjohljmpcblpjaaGreatDoorL4
import Derived.Test.YtjohljmpcblpjaaGreatDoorChecked
import Derived.WalkKit
import Derived.ProofKit
import Derived.OpenShut
import Derived.ChangeOld
import Derived.Below
import Derived.StillTailTactics
import Derived.Lib.Hide
import Derived.Deep.DeepCutAuto
import Derived.Test.YtjohljmpcblpjaaGreatDoorL9
namespace Go.Proofs.YtjohljmpcblpjaaGreatDoor.Tr
open Go.RowKit Go.Proofs.YtjohljmpcblpjaaGreatDoor.St
theorem eqIn_id (x y : ID) (w : World) : (Op.equal 59 (idV x) (idV y)).run Tryz.prog w = .ok (decide (x = y)) w := by
  have h : decide (x = y) = (x.t == y.t && x.s == y.s) := by
    rw [Bool.eq_iff_iff]
    simp [ID.ext_iff]
  rw [h]
  obtain ⟨a, b⟩ := x
  obtain ⟨c, d⟩ := y
  show (Op.equalIn 10000 59 (.agg #[.int .i64 a, .int .i64 b]) (.agg #[.int .i64 c, .int .i64 d])).run Tryz.prog w = _
  go_simp
  by_cases h1 : a = c
  · by_cases h2 : b = d
    · simp [h1, h2]
    · simp [h1, h2]
  · simp [h1]
def keyI : KeyE Tryz.prog 59 ID where
  enc := idV
  check := fun _ _ _ => by kernel_rfl
  now := fun k x d hd => .inl (by
    have e : Tryz.prog.underlying 59 = some d := hd
    rw [Tryz.underlying59] at e
    cases e
    rfl)
  ask := eqIn_id
  bits := fun k => by simp [idV, Instr.sameBits]
  und := ⟨_, Tryz.underlying59⟩
/-- a row of pointers, owned or none -/
def RowAt (w : World) (s : Rw) (D : List Nat) : Prop :=
  (s = ⟨none, 0, 0⟩ ∧ D = []) ∨ ∃ b cap, s = ⟨some ⟨b, 0, none⟩, D.length, cap⟩ ∧ OwnAt ptrE w 160 b cap D
def Rw.blk (s : Rw) : Option Nat := s.a.map (·.block)
/-- those that stand behind: the beginning and the elements -/
def Ref (L : List Nd) (r : ID) : Prop := r = ID.zero ∨ r ∈ ids L
/-- a document in memory -/
structure TAt (w : World) (g : Nat) (L : List Nd) (A : ID → Nat) (S : ID → Rw) (mp : Option Nat) : Prop where
  top : Blk w g 187 #[(S ID.zero).v, .map mp]
  elt : ∀ n ∈ L, Blk w (A n.id) 163 (ndC n ++ [(S n.id).v]).toArray
  row : ∀ r, Ref L r → RowAt w (S r) ((kids L r).map (fun n => A n.id))
  by_ : (mp = none ∧ L = []) ∨ ∃ b kvs, mp = some b ∧ MapK keyI w b kvs ∧ KeysOk kvs ∧ kvs.length = L.length ∧ ∀ x, getK kvs x = if x ∈ ids L then some (.pointer (some ⟨A x, 0, none⟩)) else none
  one : ∀ x ∈ ids L, ∀ y ∈ ids L, A x = A y → x = y
  far : ∀ x y, Ref L x → Ref L y → ∀ b, (S x).blk = some b → (S y).blk = some b → x = y
/-- the document's blocks -/
def foot (g : Nat) (L : List Nd) (A : ID → Nat) (S : ID → Rw) (mp : Option Nat) (b : Nat) : Prop :=
  b = g ∨ mp = some b ∨ (∃ x ∈ ids L, b = A x) ∨ ∃ r, Ref L r ∧ (S r).blk = some b
variable {w w' : World} {g : Nat} {L : List Nd} {A : ID → Nat} {S : ID → Rw} {mp : Option Nat}
theorem RowAt.keep {X : Nat → Prop} {s : Rw} {D : List Nat} (h : RowAt w s D) (hk : Kept X w w') (hs : ∀ b, s.blk = some b → ¬ X b) : RowAt w' s D := by
  rcases h with h | ⟨b, cap, rfl, h⟩
  · exact .inl h
  · exact .inr ⟨b, cap, rfl, h.keep hk (hs b rfl)⟩
theorem RowAt.sl {s : Rw} {D : List Nat} (h : RowAt w s D) : SlAt ptrE w s.v D := by
  rcases h with ⟨rfl, rfl⟩ | ⟨b, cap, rfl, h⟩
  · exact .inl ⟨rfl, rfl⟩
  · exact h.slAt
theorem RowAt.lt {s : Rw} {D : List Nat} (h : RowAt w s D) {b : Nat} (hb : s.blk = some b) : b < w.heap.size := by
  rcases h with ⟨rfl, rfl⟩ | ⟨b', cap, rfl, h⟩
  · cases hb
  · cases hb; exact h.lt
theorem TAt.keep {X : Nat → Prop} (h : TAt w g L A S mp) (hk : Kept X w w') (hs : ∀ b, foot g L A S mp b → ¬ X b) : TAt w' g L A S mp where
  top := hk.blk (hs g (.inl rfl)) h.top
  elt := fun n hn => hk.blk (hs _ (.inr (.inr (.inl ⟨n.id, List.mem_map.2 ⟨n, hn, rfl⟩, rfl⟩)))) (h.elt n hn)
  row := fun r hr => (h.row r hr).keep hk fun b hb => hs b (.inr (.inr (.inr ⟨r, hr, hb⟩)))
  by_ := by
    rcases h.by_ with h1 | ⟨b, kvs, rfl, h1, h2⟩
    · exact .inl h1
    · exact .inr ⟨b, kvs, rfl, h1.keep hk (hs b (.inr (.inl rfl))), h2⟩
  one := h.one
  far := h.far
theorem TAt.lt (h : TAt w g L A S mp) : ∀ b, foot g L A S mp b → b < w.heap.size := by
  rintro b (rfl | rfl | ⟨x, hx, rfl⟩ | ⟨r, hr, hb⟩)
  · exact h.top.lt
  · rcases h.by_ with ⟨h1, _⟩ | ⟨b', kvs, h1, h2, _⟩
    · cases h1
    · cases h1; exact h2.lt
  · obtain ⟨n, hn, rfl⟩ := List.mem_map.1 hx
    exact (h.elt n hn).lt
  · exact (h.row r hr).lt hb
theorem TAt.still (h : TAt w g L A S mp) (hk : Kept (fun _ => False) w w') : TAt w' g L A S mp := h.keep hk fun _ _ h => h
theorem TAt.shape (h : TAt w g L A S mp) : Shape w g L A S where
  root := h.top.cell' rfl
  beh := fun n hn => (h.elt n hn).cell' (by simp [ndC])
  row := fun r hr => (h.row r hr).sl
theorem TAt.found (h : TAt w g L A S mp) {x : ID} (hx : x ∈ ids L) : ∃ b kvs, mp = some b ∧ MapK keyI w b kvs ∧ getK kvs x = some (.pointer (some ⟨A x, 0, none⟩)) := by
  rcases h.by_ with ⟨_, h1⟩ | ⟨b, kvs, rfl, h1, _, _, h2⟩
  · rw [h1] at hx; cases hx
  · exact ⟨b, kvs, rfl, h1, by rw [h2 x, if_pos hx]⟩
end Go.Proofs.YtjohljmpcblpjaaGreatDoor.Tr
namespace Go.Proofs.YtjohljmpcblpjaaGreatDoor.Tr
open Go.RowKit Go.Proofs.YtjohljmpcblpjaaGreatDoor.St
theorem cell_keep {w w' : World} (hk : Kept (fun _ => False) w w') {a : Addr} {v : Value} (h : w.cell? a = some v) : w'.cell? a = some v :=
  (World.cell?_of_block (a := a) (hk.block a.block (World.block_lt_of_cell? w a h) (fun h => h))).trans h
theorem higher_any {w : World} {n : Nd} {b : Nat} (i : ID) (x0 : w.cell? ⟨b, 0, none⟩ = some (.int .i64 n.id.t)) (x1 : w.cell? ⟨b, 1, none⟩ = some (.int .i64 n.id.s)) :
    Calls Tryz.prog 158 #[.pointer (some ⟨b, 0, none⟩), idV i] w fun e w' => e = .returned (.int .i64 (i.cmp n.id)) ∧ Grew w w' := by
  obtain ⟨t, s⟩ := i
  show Calls _ _ #[_, .agg #[.int .i64 t, .int .i64 s]] _ _
  have hsz := World.block_lt_of_cell? w _ x0
  have hc : ∀ w, Calls Tryz.prog 155 #[.agg #[.int .i64 t, .int .i64 s], .agg #[.int .i64 n.id.t, .int .i64 n.id.s]] w fun e w' => e = .returned (.int .i64 ((⟨t, s⟩ : ID).cmp n.id)) ∧ Grew w w' := compare_any ⟨t, s⟩ n.id
  go_enter Tryz.func158, Tryz.ntmps158
  have hg0 : Grew w (w.alloc (.cells #[.int .i64 t, .int .i64 s] 59)) := (Grew.refl w).alloc _
  have b0 := Blk.new w 59 #[.int .i64 t, .int .i64 s]
  have c0 : _ = some (Value.int .i64 t) := b0.cell' (i := 0) rfl
  have c1 : _ = some (Value.int .i64 s) := b0.cell' (i := 1) rfl
  have hsz' : b < w.heap.size := hsz
  have y0 : (w.alloc (.cells #[.int .i64 t, .int .i64 s] 59)).cell? ⟨b, 0, none⟩ = some (.int .i64 n.id.t) := cell_keep ((Kept.refl (fun _ => False) w).alloc _) x0
  have y1 : (w.alloc (.cells #[.int .i64 t, .int .i64 s] 59)).cell? ⟨b, 1, none⟩ = some (.int .i64 n.id.s) := cell_keep ((Kept.refl (fun _ => False) w).alloc _) x1
  go_wp2_with fail
  go_region_held3 (fun w' => Grew w w' ∧ w'.cell? ⟨w.heap.size, 0, none⟩ = some (.int .i64 t) ∧ w'.cell? ⟨w.heap.size, 1, none⟩ = some (.int .i64 s) ∧ w'.cell? ⟨b, 0, none⟩ = some (.int .i64 n.id.t) ∧ w'.cell? ⟨b, 1, none⟩ = some (.int .i64 n.id.s)) (first | exact ⟨hg0.drew, c0, c1, y0, y1⟩ | exact ⟨hg0, c0, c1, y0, y1⟩ | exact ⟨hg1, d0, d1, d2, d3⟩)
    (first | (go_simp; go_at_call 155; refine (hc _).mono ?_; rintro e w' ⟨rfl, hg⟩; have hg1 := hg0.drew.trans hg; have d0 := cell_keep hg.kept c0; have d1 := cell_keep hg.kept c1; have d2 := cell_keep hg.kept y0; have d3 := cell_keep hg.kept y1))
  all_goals go_wp2
  all_goals go_ret
  all_goals exact ⟨rfl, hg1⟩
theorem may_any (i : ID) (w : World) : Calls Tryz.prog 125 #[idV i] w fun e w' => e = .returned (.bool (isB i)) ∧ Grew w w' := by
  obtain ⟨t, s⟩ := i
  show Calls _ _ #[.agg #[.int .i64 t, .int .i64 s]] _ _
  by_cases h1 : 1 ≤ t
  · by_cases h2 : t ≤ 2147483647
    · by_cases h3 : 1 ≤ s
      · by_cases h4 : s ≤ 16
        · have e : isB ⟨t, s⟩ = true := by simp [isB, ID.Is, h1, h2, h3, h4]
          rw [e]
          go_enter Tryz.func125, Tryz.ntmps125
          go_wp2
          go_ret
          exact ⟨rfl, (Grew.refl w).alloc _⟩
        · have e : isB ⟨t, s⟩ = false := by simp [isB, ID.Is, h4]
          rw [e]
          go_enter Tryz.func125, Tryz.ntmps125
          go_wp2
          go_ret
          exact ⟨rfl, (Grew.refl w).alloc _⟩
      · have e : isB ⟨t, s⟩ = false := by simp [isB, ID.Is, h3]
        rw [e]
        go_enter Tryz.func125, Tryz.ntmps125
        go_wp2
        go_ret
        exact ⟨rfl, (Grew.refl w).alloc _⟩
    · have e : isB ⟨t, s⟩ = false := by simp [isB, ID.Is, h2]
      rw [e]
      go_enter Tryz.func125, Tryz.ntmps125
      go_wp2
      go_ret
      exact ⟨rfl, (Grew.refl w).alloc _⟩
  · have e : isB ⟨t, s⟩ = false := by simp [isB, ID.Is, h1]
    rw [e]
    go_enter Tryz.func125, Tryz.ntmps125
    go_wp2
    go_ret
    exact ⟨rfl, (Grew.refl w).alloc _⟩
/-- where the row of those behind r lies -/
def place (g : Nat) (A : ID → Nat) (r : ID) : Addr := if r = ID.zero then ⟨g, 0, none⟩ else ⟨A r, 6, none⟩
set_option maxRecDepth 100000 in
theorem list_any {w : World} {g : Nat} {L : List Nd} {A : ID → Nat} {S : ID → Rw} {mp : Option Nat} (h : TAt w g L A S mp) {r : ID} (hr : Ref L r) :
    Calls Tryz.prog 112 #[.pointer (some ⟨g, 0, none⟩), idV r] w fun e w' => e = .returned (.pointer (some (place g A r))) ∧ Grew w w' := by
  obtain ⟨t, s⟩ := r
  have hgl : g < w.heap.size := h.top.lt
  have x1 : w.cell? ⟨g, 1, none⟩ = some (.map mp) := h.top.cell' rfl
  have heq := eqIn_id ⟨t, s⟩ ⟨0, 0⟩
  show Calls _ _ #[_, .agg #[.int .i64 t, .int .i64 s]] _ _
  unfold idV at heq
  by_cases hz : (⟨t, s⟩ : ID) = ID.zero
  · cases hz
    have e : place g A ID.zero = ⟨g, 0, none⟩ := if_pos rfl
    rw [show (⟨0, 0⟩ : ID) = ID.zero from rfl, e]
    go_enter Tryz.func112, Tryz.ntmps112
    go_wp2
    go_ret
    exact ⟨rfl, (Grew.refl w).alloc _⟩
  · have e : place g A ⟨t, s⟩ = ⟨A ⟨t, s⟩, 6, none⟩ := if_neg hz
    have hx : (⟨t, s⟩ : ID) ∈ ids L := hr.resolve_left hz
    obtain ⟨b, kvs, rfl, hm, hk⟩ := h.found hx
    have hne : decide ((⟨t, s⟩ : ID) = ⟨0, 0⟩) = false := decide_eq_false hz
    simp only [hne] at heq
    have hml := hm.lt
    have hm1 := hm.keep ((Kept.refl (fun _ => False) w).alloc (.cells #[.int .i64 t, .int .i64 s] 59)).drew (fun h => h)
    have hlk : (Instr.lookup 185 (.map (some b)) (.agg #[.int .i64 t, .int .i64 s]) false).run Tryz.prog (w.alloc (.cells #[.int .i64 t, .int .i64 s] 59)).drew = .ok (.pointer (some ⟨A ⟨t, s⟩, 0, none⟩)) (w.alloc (.cells #[.int .i64 t, .int .i64 s] 59)).drew := run_lookupK (K := keyI) (k := ⟨t, s⟩) Tryz.underlying185 hm1 hk
    rw [e]
    go_enter Tryz.func112, Tryz.ntmps112
    go_wp2_with fail
    · have h0 : t = 0 := by assumption
      have h1 : s = 0 := by assumption
      exact absurd (by rw [h0, h1]; rfl) hz
    · obtain rfl : t = 0 := by assumption
      go_region
      all_goals go_wp2
      all_goals go_ret
      all_goals exact ⟨rfl, ((Grew.refl w).alloc _).drew⟩
    · go_region
      all_goals go_wp2
      all_goals go_ret
      all_goals exact ⟨rfl, ((Grew.refl w).alloc _).drew⟩
end Go.Proofs.YtjohljmpcblpjaaGreatDoor.Tr
namespace Go.Proofs.YtjohljmpcblpjaaGreatDoor.Tr
open Go.RowKit Go.Proofs.YtjohljmpcblpjaaGreatDoor.St
theorem all_any (g : Nat) (w : World) : Calls Tryz.prog 99 #[.pointer (some ⟨g, 0, none⟩)] w fun e w' =>
    e = .returned (.func (.func 140) #[] #[.pointer (some ⟨w.heap.size, 0, none⟩)]) ∧ w' = w.alloc (.cells #[.pointer (some ⟨g, 0, none⟩)] 102) := by
  go_enter Tryz.func99, Tryz.ntmps99
  go_wp2
  go_ret
  exact ⟨rfl, rfl⟩
end Go.Proofs.YtjohljmpcblpjaaGreatDoor.Tr
namespace Go.Proofs.YtjohljmpcblpjaaGreatDoor.Tr
open Go.RowKit Go.Proofs.YtjohljmpcblpjaaGreatDoor.St Go.Shelf
abbrev Box := Nat × TypeId × Array Value
/-- a caller's boxes bs, laid since w, and the document, that lay at w; the iterator's own blocks X from B on; M: what may have been turned -/
structure CJ (w : World) (B : Nat) (M : Nat → Prop) (bs : List Box) (g : Nat) (L : List Nd) (A : ID → Nat) (S : ID → Rw) (mp : Option Nat) (X : Nat → Prop) (W : World) : Prop where
  box : ∀ x ∈ bs, (w.heap.size ≤ x.1 ∧ x.1 < B) ∧ Blk W x.1 x.2.1 x.2.2
  tree : TAt W g L A S mp
  low : ∀ b, foot g L A S mp b → b < w.heap.size
  far : ∀ b, X b → B ≤ b ∧ b < W.heap.size
  size : w.heap.size ≤ B ∧ B ≤ W.heap.size
  kept : Kept M w W
variable {w W W' : World} {B : Nat} {M : Nat → Prop} {bs : List Box} {g : Nat} {L : List Nd} {A : ID → Nat} {S : ID → Rw} {mp : Option Nat} {X : Nat → Prop}
theorem CJ.start (h : TAt w g L A S mp) : CJ w w.heap.size M [] g L A S mp (fun _ => False) w :=
  { box := fun x hx => by simp at hx
    tree := h
    low := h.lt
    far := fun _ h => h.elim
    size := ⟨Nat.le_refl _, Nat.le_refl _⟩
    kept := Kept.refl _ _ }
theorem CJ.boxed (h : CJ w W.heap.size M bs g L A S mp (fun _ => False) W) (vs : Array Value) (T : TypeId) : CJ w (W.alloc (.cells vs T)).heap.size M (bs ++ [(W.heap.size, T, vs)]) g L A S mp (fun _ => False) (W.alloc (.cells vs T)) :=
  { box := fun x hx => by
      have hs : (W.alloc (.cells vs T)).heap.size = W.heap.size + 1 := World.size_alloc _ _
      rcases List.mem_append.1 hx with hx | hx
      · exact ⟨⟨(h.box x hx).1.1, by have := (h.box x hx).1.2; omega⟩, (h.box x hx).2.alloc _⟩
      · rw [List.mem_singleton.1 hx]
        exact ⟨⟨h.size.1, by show W.heap.size < _; omega⟩, Blk.new _ _ _⟩
    tree := h.tree.keep ((Kept.refl (fun _ => False) W).alloc _) fun _ _ h => h
    low := h.low
    far := fun _ h => h.elim
    size := ⟨by have := h.size.1; simp; omega, Nat.le_refl _⟩
    kept := h.kept.alloc _ }
theorem CJ.drew (h : CJ w B M bs g L A S mp X W) : CJ w B M bs g L A S mp X W.drew := by
  have hk : Kept (fun _ => False) W W.drew := (Kept.refl _ _).drew
  exact { box := fun x hx => ⟨(h.box x hx).1, hk.blk (fun h => h) (h.box x hx).2⟩
          tree := h.tree.still hk
          low := h.low
          far := h.far
          size := h.size
          kept := h.kept.drew }
theorem CJ.drewN (h : CJ w B M bs g L A S mp X W) : ∀ k, CJ w B M bs g L A S mp X (W.drewN k) := by
  intro k
  have hk : Kept (fun _ => False) W (W.drewN k) := (Kept.refl _ _).drewN k
  exact { box := fun x hx => ⟨(h.box x hx).1, hk.blk (fun h => h) (h.box x hx).2⟩
          tree := h.tree.still hk
          low := h.low
          far := h.far
          size := h.size
          kept := h.kept.trans hk fun _ _ h => h.elim }
theorem CJ.step {Y : Nat → Prop} (h : CJ w B M bs g L A S mp X W) (hk : Kept Y W W') (hY : ∀ b, Y b → B ≤ b) : CJ w B M bs g L A S mp X W' where
  box := fun x hx => ⟨(h.box x hx).1, hk.blk (fun hy => by have := hY _ hy; have := (h.box x hx).1; omega) (h.box x hx).2⟩
  tree := h.tree.keep hk fun b hb hy => by have := hY _ hy; have := h.low b hb; have := h.size.1; omega
  low := h.low
  far := fun b hb => ⟨(h.far b hb).1, Nat.lt_of_lt_of_le (h.far b hb).2 hk.size⟩
  size := ⟨h.size.1, Nat.le_trans h.size.2 hk.size⟩
  kept := h.kept.trans hk fun b hb hy => by have := hY _ hy; have := h.size.1; omega
theorem CJ.grow (h : CJ w B M bs g L A S mp X W) (hk : Kept X W W') : CJ w B M bs g L A S mp (fun b => X b ∨ (W.heap.size ≤ b ∧ b < W'.heap.size)) W' :=
  { h.step hk fun b hb => (h.far b hb).1 with far := fun b hb => hb.elim (fun h1 => ⟨(h.far b h1).1, Nat.lt_of_lt_of_le (h.far b h1).2 hk.size⟩) fun h2 => ⟨Nat.le_trans h.size.2 h2.1, h2.2⟩ }
theorem CJ.alloc (h : CJ w B M bs g L A S mp X W) (o : Obj) : CJ w B M bs g L A S mp X (W.alloc o) :=
  h.step (Y := fun _ => False) ((Kept.refl _ _).alloc o) fun _ h => h.elim
theorem kept_put (W : World) (l : Nat) (o : Obj) : Kept (· = l) W (W.putObj l o) := kept_obj W l o
theorem CJ.put (h : CJ w B M bs g L A S mp X W) {l : Nat} (hl : B ≤ l) (o : Obj) : CJ w B M bs g L A S mp X (W.putObj l o) :=
  h.step (kept_put W l o) fun b hb => by rw [hb]; exact hl
theorem CJ.at_ (h : CJ w B M bs g L A S mp X W) (j : Nat) {z : Nat} {T : TypeId} {us : Array Value} (hj : bs[j]? = some (z, T, us)) : Blk W z T us := (h.box _ (List.mem_of_getElem? hj)).2
theorem CJ.cell (h : CJ w B M bs g L A S mp X W) (j : Nat) {z : Nat} {T : TypeId} {us : Array Value} (hj : bs[j]? = some (z, T, us)) (i : Nat) {u : Value} (hu : us[i]? = some u) : W.cell? ⟨z, i, none⟩ = some u := (h.at_ j hj).cell' hu
theorem CJ.frozen (h : CJ w B M bs g L A S mp X W) (j : Nat) {z : Nat} {T : TypeId} {us : Array Value} (hj : bs[j]? = some (z, T, us)) (i : Nat) : W.frozen? ⟨z, i, none⟩ = false := (h.at_ j hj).frozen i
/-- one cell of a box written over -/
theorem CJ.seti (h : CJ w B M bs g L A S mp X W) (j : Nat) {z : Nat} {T : TypeId} {us : Array Value} (o : Nat) (v : Value) (hj : bs[j]? = some (z, T, us)) (hnd : (bs.map (·.1)).Nodup) : CJ w B M (bs.set j (z, T, us.setIfInBounds o v)) g L A S mp X (W.setCell ⟨z, o, none⟩ v) := by
  have hjl := (List.getElem?_eq_some_iff.1 hj).1
  have hzb := h.box _ (List.mem_of_getElem? hj)
  have hk : Kept (· = z) W (W.setCell ⟨z, o, none⟩ v) := (Kept.refl (· = z) W).setCell (p := ⟨z, o, none⟩) (fun _ => rfl) v
  refine { box := fun x hx => ?_, tree := h.tree.keep hk fun b hb e => ?_, low := h.low, far := fun b hb => ⟨(h.far b hb).1, by rw [World.size_setCell]; exact (h.far b hb).2⟩, size := ⟨h.size.1, by rw [World.size_setCell]; exact h.size.2⟩, kept := h.kept.trans hk fun b hb e => ?_ }
  · obtain ⟨i, hi, hx⟩ := List.mem_iff_getElem.1 hx
    by_cases e : j = i
    · subst e
      rw [List.getElem_set_self] at hx
      subst hx
      exact ⟨hzb.1, by have h9 := Blk.set_ (g := z) (t := T) (cs := us) hzb.2 o v; exact h9⟩
    · rw [List.getElem_set_ne e] at hx
      have hx2 : x ∈ bs := by rw [← hx]; exact List.getElem_mem _
      refine ⟨(h.box x hx2).1, hk.blk (fun hz => e ?_) (h.box x hx2).2⟩
      rw [List.length_set] at hi
      have h2 : (bs.map (·.1))[j]'(by simpa using hjl) = (bs.map (·.1))[i]'(by simpa using hi) := by
        rw [List.getElem_map, List.getElem_map, hx, hz, (List.getElem?_eq_some_iff.1 hj).2]
      rcases Nat.lt_or_gt_of_ne e with hlt | hlt
      · exact absurd h2 ((List.pairwise_iff_getElem.1 hnd) j i _ _ hlt)
      · exact absurd h2.symm ((List.pairwise_iff_getElem.1 hnd) i j _ _ hlt)
  · have := h.low b hb; have := hzb.1.1; omega
  · have := hzb.1.1; omega
/-- a box of one cell written over -/
theorem CJ.set (h : CJ w B M bs g L A S mp X W) (j : Nat) {z : Nat} {T : TypeId} {u : Value} (v : Value) (hj : bs[j]? = some (z, T, #[u])) (hnd : (bs.map (·.1)).Nodup) : CJ w B M (bs.set j (z, T, #[v])) g L A S mp X (W.setCell ⟨z, 0, none⟩ v) :=
  h.seti j 0 v hj hnd
theorem region_cut {F : Fence} {n : Nat} {P : Program} {c : Code} {Q : Exit → Act → World → Prop} {a : Act} {W : World} (R : World → Prop) (h : ∃ A, c.wpIn F n P (fun e a' W' => e = .normal ∧ a' = A ∧ R W') a W ∧ ∀ W', R W' → Q .normal A W') : c.wpIn F n P Q a W := by
  obtain ⟨A, h1, h2⟩ := h
  exact wpIn_mono h1 fun e a' W' ⟨h3, h4, h5⟩ => by subst h3 h4; exact h2 W' h5
theorem region_any {F : Fence} {n : Nat} {P : Program} {c : Code} {Q : Exit → Act → World → Prop} {a : Act} {W : World} (R : Act → World → Prop) (h : c.wpIn F n P (fun e a' W' => e = .normal ∧ R a' W') a W) (h2 : ∀ a' W', R a' W' → Q .normal a' W') : c.wpIn F n P Q a W :=
  wpIn_mono h fun e a' W' ⟨h3, h5⟩ => by subst h3; exact h2 a' W' h5
theorem kept_cell (W : World) (z : Nat) (v : Value) : Kept (· = z) W (W.setCell ⟨z, 0, none⟩ v) := (Kept.refl (· = z) W).setCell (p := ⟨z, 0, none⟩) (fun _ => rfl) v
/-- the rounds' post, where the caller's boxes and the document alone were turned -/
theorem CJ.off {Y : Nat → Prop} (h : CJ w B M bs g L A S mp X W) (h2 : B + 1 < W.heap.size) (hk : Kept Y W W') (hY : ∀ b, Y b → b < B) : (∀ x, X x ∨ x = B ∨ x = B + 1 → W'.heap[x]? = W.heap[x]?) ∧ W.heap.size ≤ W'.heap.size :=
  ⟨fun x hx => hk.block x (by rcases hx with hx | rfl | rfl; exact (h.far x hx).2; omega; omega) fun hy => by
    have := hY x hy
    rcases hx with hx | rfl | rfl
    · have := (h.far x hx).1; omega
    · omega
    · omega, hk.size⟩
theorem ret_range {F : Fence} {n : Nat} {P : Program} {fn : Func} {R : Ending → World → Prop} {tmps : Array Value} {v : Value} (hK : W.heap[B]? = some (.deferred (some []))) (hr : (results fn tmps).run P (W.putObj B (.deferred none)) = .ok v (W.putObj B (.deferred none)))
    (h : R (.returned v) (W.putObj B (.deferred none))) : LeavesInM F n P fn tmps R [{ target := .collected B, args := #[] }] .returning W :=
  ⟨by simp, .inl ⟨_, _, rfl, run_takeDeferred hK, v, hr, h⟩⟩
/-- at the return: the block for deferred calls is taken up -/
theorem CJ.taken (h : CJ w B M bs g L A S mp X W) (o : Obj) : CJ w B M bs g L A S mp X (W.putObj B o) := h.put (Nat.le_refl _) o
end Go.Proofs.YtjohljmpcblpjaaGreatDoor.Tr
