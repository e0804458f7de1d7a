/- A state turned in memory. A row that grows through the rounds. Nodes, by a range over all. shown, an iterator that ranges over all. Len, by a range over shown. All, by a range over shown. -/
import Derived.Test.YtjohljmpcblpjaaGreatDoorL10
import Derived.Test.YtjohljmpcblpjaaGreatDoorL8
import Derived.Stop.RegionWithIn
namespace Go.Proofs.YtjohljmpcblpjaaGreatDoor.Tr
open Go.RowKit Go.Proofs.YtjohljmpcblpjaaGreatDoor.St Go.Shelf
abbrev key (n : Nd) : ID × ID := (n.id, n.ref)
theorem key_ids {L L' : List Nd} (h : L'.map key = L.map key) : ids L' = ids L := by
  have := congrArg (List.map Prod.fst) h
  rw [List.map_map, List.map_map] at this
  exact this
theorem key_kids {L L' : List Nd} (h : L'.map key = L.map key) (r : ID) (A : ID → Nat) : (kids L' r).map (fun n => A n.id) = (kids L r).map (fun n => A n.id) := by
  have e : ∀ M : List Nd, (kids M r).map (fun n => A n.id) = ((M.map key).filter (fun p => decide (p.2 = r))).map (fun p => A p.1) := fun M => by
    rw [List.filter_map, List.map_map]; rfl
  rw [e, e, h]
theorem key_foot {L L' : List Nd} (h : L'.map key = L.map key) {g : Nat} {A : ID → Nat} {S : ID → Rw} {mp : Option Nat} {b : Nat} : foot g L' A S mp b ↔ foot g L A S mp b := by
  unfold foot Ref; rw [key_ids h]
theorem Shape.key {w : World} {g : Nat} {L L' : List Nd} {A : ID → Nat} {S : ID → Rw} (hs : Shape w g L A S) (h : L'.map key = L.map key) : Shape w g L' A S where
  root := hs.root
  beh := fun n hn => by
    have h1 : n.id ∈ ids L := by rw [← key_ids h]; exact List.mem_map.2 ⟨n, hn, rfl⟩
    obtain ⟨m, hm, e⟩ := List.mem_map.1 h1
    have := hs.beh m hm
    rwa [e] at this
  row := fun r hr => by
    rw [key_ids h] at hr
    rw [key_kids h]
    exact hs.row r hr
theorem RowAt.ne {w : World} {s : Rw} {D : List Nat} (h : RowAt w s D) {g : Nat} {cs : Array Value} {t : TypeId} (hb : Blk w g t cs) (ht : t ≠ 160) : ∀ b, s.blk = some b → ¬ b = g := by
  rintro b hs rfl
  rcases h with ⟨rfl, _⟩ | ⟨b', cap, rfl, cs', h1, _⟩
  · cases hs
  · cases hs
    exact Blk.ne_ hb h1 ht rfl
/-- one element's state written over -/
theorem TAt.state {w : World} {g : Nat} {P Q : List Nd} {m : Nd} {A : ID → Nat} {S : ID → Rw} {mp : Option Nat} (h : TAt w g (P ++ m :: Q) A S mp) (hnd : (ids (P ++ m :: Q)).Nodup) (st : Int) :
    TAt (w.setCell ⟨A m.id, 5, none⟩ (.int .i64 st)) g (P ++ { m with st := st } :: Q) A S mp := by
  have hk : Kept (· = A m.id) w (w.setCell ⟨A m.id, 5, none⟩ (.int .i64 st)) := (Kept.refl (· = A m.id) w).setCell (p := ⟨A m.id, 5, none⟩) (fun _ => rfl) _
  have hm : m ∈ P ++ m :: Q := by simp
  have hmi : m.id ∈ ids (P ++ m :: Q) := List.mem_map.2 ⟨m, hm, rfl⟩
  have he := h.elt m hm
  have hkey : (P ++ { m with st := st } :: Q).map key = (P ++ m :: Q).map key := by simp [key]
  have hids := key_ids hkey
  have hne : ∀ n ∈ P ++ Q, n.id ≠ m.id := fun n hn e => by
    rw [ids_append] at hnd
    obtain ⟨n1, n2, n3⟩ := List.nodup_append.1 hnd
    rcases List.mem_append.1 hn with hn | hn
    · exact n3 _ (List.mem_map.2 ⟨n, hn, rfl⟩) m.id List.mem_cons_self e
    · exact (List.nodup_cons.1 n2).1 (List.mem_map.2 ⟨n, hn, e⟩)
  refine { top := hk.blk (fun e => ?_) h.top, elt := fun n hn => ?_, row := fun r hr => ?_, by_ := ?_, one := by rw [hids]; exact h.one, far := fun x y hx hy => ?_ }
  · exact Blk.ne_ h.top he (by decide) e
  · have hn2 : n = { m with st := st } ∨ n ∈ P ++ Q := by
      rcases List.mem_append.1 hn with hn | hn
      · exact .inr (List.mem_append_left _ hn)
      · rcases List.mem_cons.1 hn with hn | hn
        · exact .inl hn
        · exact .inr (List.mem_append_right _ hn)
    rcases hn2 with rfl | hn2
    · exact he.set_ 5 (.int .i64 st)
    · have hn3 : n ∈ P ++ m :: Q := by rcases List.mem_append.1 hn2 with h1 | h1; exact List.mem_append_left _ h1; exact List.mem_append_right _ (List.mem_cons_of_mem _ h1)
      exact hk.blk (fun e => hne n hn2 (h.one _ (List.mem_map.2 ⟨n, hn3, rfl⟩) _ hmi e)) (h.elt n hn3)
  · have hr2 : Ref (P ++ m :: Q) r := by unfold Ref at hr ⊢; rwa [hids] at hr
    rw [key_kids hkey]
    exact (h.row r hr2).keep hk ((h.row r hr2).ne he (by decide))
  · rcases h.by_ with ⟨h1, h2⟩ | ⟨b, kvs, h1, h2, h3, h4, h5⟩
    · simp at h2
    · refine .inr ⟨b, kvs, h1, h2.keep hk fun e => h2.ne_blk he e.symm, h3, by rw [h4]; simp, fun x => by rw [h5 x, hids]⟩
  · unfold Ref at hx hy
    rw [hids] at hx hy
    exact h.far x y hx hy
variable {w W W' : World} {B : Nat} {M : Nat → Prop} {bs : List Box} {g : Nat} {L : List Nd} {A : ID → Nat} {S : ID → Rw} {mp : Option Nat} {X : Nat → Prop}
theorem CJ.state {P Q : List Nd} {m : Nd} (h : CJ w B M bs g (P ++ m :: Q) A S mp X W) (hnd : (ids (P ++ m :: Q)).Nodup) (hM : M (A m.id)) (st : Int) : CJ w B M bs g (P ++ { m with st := st } :: Q) A S mp X (W.setCell ⟨A m.id, 5, none⟩ (.int .i64 st)) := by
  have hk : Kept (· = A m.id) W (W.setCell ⟨A m.id, 5, none⟩ (.int .i64 st)) := (Kept.refl (· = A m.id) W).setCell (p := ⟨A m.id, 5, none⟩) (fun _ => rfl) _
  have hl : A m.id < w.heap.size := h.low _ (.inr (.inr (.inl ⟨m.id, List.mem_map.2 ⟨m, by simp, rfl⟩, rfl⟩)))
  have hkey : (P ++ { m with st := st } :: Q).map key = (P ++ m :: Q).map key := by simp [key]
  exact { box := fun x hx => ⟨(h.box x hx).1, hk.blk (fun e => by have := (h.box x hx).1.1; have e : x.1 = A m.id := e; omega) (h.box x hx).2⟩
          tree := h.tree.state hnd st
          low := fun b hb => h.low b ((key_foot hkey).1 hb)
          far := fun b hb => ⟨(h.far b hb).1, by rw [World.size_setCell]; exact (h.far b hb).2⟩
          size := ⟨h.size.1, by rw [World.size_setCell]; exact h.size.2⟩
          kept := h.kept.trans hk fun b _ e => by rw [e]; exact hM }
theorem CJ.grew (h : CJ w B M bs g L A S mp X W) (hg : Kept (fun _ => False) W W') : CJ w B M bs g L A S mp X W' := h.step hg fun _ h => h.elim
end Go.Proofs.YtjohljmpcblpjaaGreatDoor.Tr
namespace Go.Proofs.YtjohljmpcblpjaaGreatDoor.Tr
open Go.RowKit Go.Proofs.YtjohljmpcblpjaaGreatDoor.St Go.Shelf
attribute [local go_sem] Oper.semAt_some
/-- a row that grows: what a box holds -/
def Gro {α : Type} (E : Enc α) (t : TypeId) (w : World) (B : Nat) (M : Nat → Prop) (f : Value → List Box) (g : Nat) (L : List Nd) (A : ID → Nat) (S : ID → Rw) (mp : Option Nat) (D : List α) (X : Nat → Prop) (W : World) : Prop :=
  ∃ v, CJ w B M (f v) g L A S mp X W ∧ W.ownsRow (B + 2) t E.k v D.length (E.flat D) ∧ ∀ b, v.ownBlock = some b → ¬ X b
variable {α : Type} {E : Enc α} {t : TypeId} {w W W' : World} {B : Nat} {M : Nat → Prop} {f : Value → List Box} {g : Nat} {L : List Nd} {A : ID → Nat} {S : ID → Rw} {mp : Option Nat} {D : List α} {X : Nat → Prop}
theorem owns_lt {w : World} {base n size : Nat} {e : TypeId} {v : Value} {xs : List Value} (h : w.ownsRow base e size v n xs) : ∀ b, v.ownBlock = some b → base ≤ b ∧ b < w.heap.size := fun b hb => by
  rcases h.2 with ⟨rfl, _⟩ | ⟨g, cap, cur, rfl, hbg, hg, _⟩
  · cases hb
  · cases hb; exact ⟨hbg, Blk.lt (t := e) (cs := cur) hg⟩
theorem Gro.grow (h : Gro E t w B M f g L A S mp D X W) (hk : Kept X W W') : Gro E t w B M f g L A S mp D (fun b => X b ∨ (W.heap.size ≤ b ∧ b < W'.heap.size)) W' := by
  obtain ⟨v, hJ, hO, hX⟩ := h
  refine ⟨v, hJ.grow hk, owns_keep hO hk hX, fun b hb => ?_⟩
  have := (owns_lt hO b hb).2
  rintro (h1 | h1)
  · exact hX b hb h1
  · omega
theorem Gro.step {Y : Nat → Prop} (h : Gro E t w B M f g L A S mp D X W) (hk : Kept Y W W') (hY : ∀ b, Y b → B ≤ b ∧ b < B + 2) : Gro E t w B M f g L A S mp D X W' := by
  obtain ⟨v, hJ, hO, hX⟩ := h
  exact ⟨v, hJ.step hk fun b hb => (hY b hb).1, owns_keep hO hk fun b hb hy => by have := (owns_lt hO b hb).1; have := (hY b hy).2; omega, hX⟩
theorem Gro.put (h : Gro E t w B M f g L A S mp D X W) (o : Obj) : Gro E t w B M f g L A S mp D X (W.putObj (B + 1) o) :=
  h.step (kept_put W (B + 1) o) fun b hb => by rw [hb]; omega
theorem Gro.taken (h : Gro E t w B M f g L A S mp D X W) (o : Obj) : Gro E t w B M f g L A S mp D X (W.putObj B o) :=
  h.step (kept_put W B o) fun b hb => by rw [hb]; omega
theorem Gro.alloc (h : Gro E t w B M f g L A S mp D X W) (o : Obj) : Gro E t w B M f g L A S mp D X (W.alloc o) :=
  h.step ((Kept.refl (fun _ => False) W).alloc o) fun _ h => h.elim
theorem Gro.after {v v2 : Value} {W1 w2 : World} (hJ : CJ w B M (f v) g L A S mp X W) (hO : W.ownsRow (B + 2) t E.k v D.length (E.flat D))
    (hk : Kept (fun _ => False) W W1) (hg : Grow1 W1 w2 v v2) : CJ w B M (f v) g L A S mp X w2 := by
  have hg2 : Kept (fun b => v.ownBlock = some b) W1 w2 := by
    rcases hg with ⟨_, h⟩ | ⟨_, h⟩
    · exact h
    · exact h.mono fun _ _ h => h.elim
  exact hJ.step ((hk.mono fun _ _ h => h.elim).trans hg2 fun _ _ h => h) fun b hb => by have := (owns_lt hO b hb).1; omega
/-- one element more: behind a new block for it (W1), the append (w2), the store -/
theorem Gro.appended {v v2 : Value} {x : α} {W1 w2 : World} (hJ : CJ w B M (f v) g L A S mp X W) (hO : W.ownsRow (B + 2) t E.k v D.length (E.flat D)) (hX : ∀ b, v.ownBlock = some b → ¬ X b) (h2 : B + 1 < W.heap.size)
    (hk : Kept (fun _ => False) W W1) (hg : Grow1 W1 w2 v v2) {n : Nat} (hn : n = D.length + 1) (ho : w2.ownsRow (B + 2) t E.k v2 n (E.flat (D ++ [x]))) (j : Nat) {z : Nat} {T : TypeId} (hj : (f v)[j]? = some (z, T, #[v])) (hnd : ((f v).map (·.1)).Nodup) (hf : f v2 = (f v).set j (z, T, #[v2])) :
    ((∀ x, X x ∨ x = B ∨ x = B + 1 → (w2.setCell ⟨z, 0, none⟩ v2).heap[x]? = W.heap[x]?) ∧ W.heap.size ≤ (w2.setCell ⟨z, 0, none⟩ v2).heap.size) ∧ Gro E t w B M f g L A S mp (D ++ [x]) X (w2.setCell ⟨z, 0, none⟩ v2) := by
  subst hn
  have hzb := hJ.box _ (List.mem_of_getElem? hj)
  have hz1 : w.heap.size ≤ z := hzb.1.1
  have hz2 : z < B := hzb.1.2
  have hsW := hk.size
  have hg2 : Kept (fun b => v.ownBlock = some b) W1 w2 := by
    rcases hg with ⟨_, h⟩ | ⟨_, h⟩
    · exact h
    · exact h.mono fun _ _ h => h.elim
  have hkk : Kept (fun b => v.ownBlock = some b) W w2 := (hk.mono fun _ _ h => h.elim).trans hg2 fun _ _ h => h
  have hJ2 : CJ w B M (f v) g L A S mp X w2 := hJ.step hkk fun b hb => by have := (owns_lt hO b hb).1; omega
  have hJ3 := hJ2.set j v2 hj hnd
  rw [← hf] at hJ3
  have hc := kept_cell w2 z v2
  have hk3 : Kept (fun b => b = z ∨ v.ownBlock = some b) W (w2.setCell ⟨z, 0, none⟩ v2) := (hkk.mono fun _ _ h => .inr h).trans hc fun _ _ h => .inl h
  refine ⟨⟨fun x hx => hk3.block x ?_ ?_, hk3.size⟩, v2, hJ3, ?_, fun b hb hXb => ?_⟩
  · rcases hx with hx | rfl | rfl
    · exact (hJ.far x hx).2
    · omega
    · omega
  · rintro (rfl | hb)
    · rcases hx with hx | hx | hx
      · have := (hJ.far _ hx).1; omega
      · omega
      · omega
    · rcases hx with hx | hx | hx
      · exact hX x hb hx
      · have := (owns_lt hO x hb).1; omega
      · have := (owns_lt hO x hb).1; omega
  · have hl : (D ++ [x]).length = D.length + 1 := by simp
    rw [hl]
    exact owns_keep ho hc fun b hb e => by have := (owns_lt ho b hb).1; omega
  · have hXl := (hJ.far b hXb).2
    rcases hg with ⟨h1, _⟩ | ⟨h1, _⟩
    · rw [h1] at hb; exact hX b hb hXb
    · rw [h1] at hb
      injection hb with hb
      omega
/-- a round has left it so -/
def GroR {α : Type} (E : Enc α) (t : TypeId) (w : World) (B : Nat) (M : Nat → Prop) (f : Value → List Box) (g : Nat) (L : List Nd) (A : ID → Nat) (S : ID → Rw) (mp : Option Nat) (D : List α) (X : Nat → Prop) (W : World) (_ : Act) (W' : World) : Prop :=
  ((∀ x, X x ∨ x = B ∨ x = B + 1 → W'.heap[x]? = W.heap[x]?) ∧ W.heap.size ≤ W'.heap.size) ∧ Gro E t w B M f g L A S mp D X W'
/-- an append as a step of a drawn region in a round -/
theorem step_append_in {F : Fence} {n : Nat} {P : Program} {α : Type} (E : Enc α) {o : Oper} {a : Act} {w : World} {K : Act → World → Prop} {Q : Exit → Act → World → Prop} {R : Result Next} (s y : Operand) (t : TypeId)
    (hop : o.op = Op.call { callee := Callee.builtin Builtin.append, args := #[s, y], argTypes := #[t, t] }) (base : Nat) (e : TypeId) (z : Value) (bytes : Nat) (ht : P.underlying t = some (.slice e))
    (hinfo : (P.info? e).map (fun i => (i.zero, i.size, i.bytes)) = some (some z, E.k, bytes)) (hzs : z.cells.size = E.k) (hb4 : bytes ≤ 4096) {v : Value} {D : List α} {x : α} {ad : Addr} {c : Nat} (hs : a.eval s = v) (hx : a.eval y = .slice (some ad) 1 c)
    (himp : o.uponIn F n P a K Q ((execOp a.eval o).run P w) → o.uponIn F n P a K Q R)
    (hown : w.ownsRow base e E.k v D.length (E.flat D)) (hL : SlAt E w (.slice (some ad) 1 c) [x]) (h63 : D.length ≤ 1000000) (hbase : base ≤ w.heap.size)
    (hK : ∀ v' w', w'.ownsRow base e E.k v' (D.length + 1) (E.flat (D ++ [x])) → Grow1 w w' v v' → K (a.put o.dst v') w') : o.uponIn F n P a K Q R := by
  refine himp ?_
  obtain ⟨v', w', hr, h2, h3⟩ := run_append_keeps (P := P) E t o.type e base z bytes ht hinfo hzs hb4 hown hL h63 hbase
  simp only [hop, execOp, resolve, invoke, builtin, Sem.run_bind, Sem.run_pure, Result.andThen_ok, List.map_toArray, List.map_cons, List.map_nil, hs, hx, hr]
  exact hK v' w' h2 h3
end Go.Proofs.YtjohljmpcblpjaaGreatDoor.Tr
namespace Go.Proofs.YtjohljmpcblpjaaGreatDoor.Tr
open Go.RowKit Go.Proofs.YtjohljmpcblpjaaGreatDoor.St Go.Shelf
attribute [local go_sem] Oper.semAt_some
theorem info_node : (Tryz.prog.info? 84).map (fun i => (i.zero, i.size, i.bytes)) = some (some (.agg #[.int .i64 0, .int .i64 0, .int .i64 0, .int .i64 0, .int .i32 0, .int .i64 0]), 6, 48) := by kernel_rfl
def nodesB (z g : Nat) (v : Value) : List Box :=
  [(z, 51, #[v]), (z + 1, 102, #[.pointer (some ⟨g, 0, none⟩)])]
theorem nodesB_nodup (z g : Nat) (v : Value) : ((nodesB z g v).map (·.1)).Nodup := by
  simp [nodesB]
def nodesJ (w : World) (B g : Nat) (L : List Nd) (A : ID → Nat) (S : ID → Rw) (mp : Option Nat) (i : Nat) (X : Nat → Prop) (W : World) : Prop :=
  Gro nodeE 84 w B (fun _ => False) (nodesB w.heap.size g) g L A S mp (L.take i) X W
/-- a row that is clipped: nil, or one in a block of its own -/
def ClipAt {α : Type} (E : Enc α) (t : TypeId) (base : Nat) (w : World) (v : Value) (D : List α) : Prop :=
  (v = .slice none 0 0 ∧ D = []) ∨ ∃ b cap, v = .slice (some ⟨b, 0, none⟩) D.length D.length ∧ base ≤ b ∧ OwnAt E w t b cap D
theorem clip_any (a : Option Addr) (n c : Nat) (h : n ≤ c) (w : World) : Calls Tryz.prog 100 #[.slice a n c] w fun e w' => e = .returned (.slice a n n) ∧ w' = w := by
  go_enter Tryz.func100, Tryz.ntmps100
  go_wp2
  go_ret
  exact ⟨rfl, rfl⟩
set_option maxRecDepth 100000 in
set_option maxHeartbeats 8000000 in
theorem nodes_any {w : World} {g : Nat} {L : List Nd} {A : ID → Nat} {S : ID → Rw} {mp : Option Nat} (h : TAt w g L A S mp) (hdoc : Doc L) (hlen : L.length ≤ 900000) :
    Calls Tryz.prog 57 #[.pointer (some ⟨g, 0, none⟩)] w fun e w' => (∃ v, e = .returned v ∧ ClipAt nodeE 84 w.heap.size w' v L) ∧ Kept (fun _ => False) w w' := by
  refine (callsIn_wide (n := 6)).1 ?_
  refine callsIn_of_wp_marks Tryz.func57 rfl trivial ?_ rfl
  simp only [Tryz.ntmps57, List.size_toArray, List.length_cons, List.length_nil, Nat.reduceAdd, Nat.reduceSub, Array.replicate_succ, Array.replicate_zero, List.push_toArray, List.append_toArray, List.nil_append, List.cons_append]
  gi_wp2_with (refine ⟨trivial, ?_⟩; gi_at_call 99; refine (callsIn_wide.2 (all_any g _)).mono ?_; rintro e w' ⟨rfl, rfl⟩)
  obtain ⟨W0, hW0⟩ : ∃ W0, ((w.alloc (.cells #[.slice none 0 0] 51)).alloc (.cells #[.pointer (some ⟨g, 0, none⟩)] 102)) = W0 := ⟨_, rfl⟩
  have hC : CJ w W0.heap.size (fun _ => False) (nodesB w.heap.size g (.slice none 0 0)) g L A S mp (fun _ => False) W0 := by
    rw [← hW0]
    have h9 := (((CJ.start (M := fun _ => False) h).boxed #[.slice none 0 0] 51)).boxed #[.pointer (some ⟨g, 0, none⟩)] 102
    simp only [World.size_alloc] at h9 ⊢
    exact h9
  rw [hW0]
  clear hW0
  refine wpIn_iter rfl (by decide) (gf := 140) (lb := #[.pointer (some ⟨w.heap.size + 1, 0, none⟩)]) rfl trivial (enters_of Tryz.func140 (by kernel_rfl) rfl) (all1_iter (A := A) (S := S) (g := g) trivial rfl (by decide) hdoc hlen) (fun _ _ => rfl) W0.heap.size rfl (nodesJ w W0.heap.size g L A S mp) (fun _ _ _ => False) ?hrd ?hgr ?hgx ?hob ?hox ?h0 ?round ?done ?stop
  case hrd => rintro i X W ⟨v, hJ, _⟩; exact ⟨hJ.cell 1 rfl 0 rfl, hJ.tree.shape⟩
  case hgr => intro i X W W' hJ hk; exact Gro.grow hJ hk
  case hgx => intro c X W W' h _; exact h
  case hob => intro i X W o' hJ; exact Gro.put hJ o'
  case hox => intro c X W o' hJ; exact hJ
  case h0 =>
    intro o1 o2
    have h9 : Gro nodeE 84 w W0.heap.size (fun _ => False) (nodesB w.heap.size g) g L A S mp [] (fun _ => False) W0 := ⟨_, hC, World.ownsRow_nil .., fun b hb => by cases hb⟩
    exact (h9.alloc o1).alloc o2
  case round =>
    intro i W K hi hK
    have hm := nth_lt hi
    unfold allEnc
    generalize nth L i = m at hm ⊢
    gi_wp2
    rintro X W h2 ⟨v, hJ, hO, hX⟩
    have he := hJ.tree.elt m (List.mem_of_getElem? hm)
    have e0 : W.cell? ⟨A m.id, 0, none⟩ = some (.int .i64 m.id.t) := he.cell' rfl
    have e1 : W.cell? ⟨A m.id, 1, none⟩ = some (.int .i64 m.id.s) := he.cell' rfl
    have e2 : W.cell? ⟨A m.id, 2, none⟩ = some (.int .i64 m.ref.t) := he.cell' rfl
    have e3 : W.cell? ⟨A m.id, 3, none⟩ = some (.int .i64 m.ref.s) := he.cell' rfl
    have e4 : W.cell? ⟨A m.id, 4, none⟩ = some (.int .i32 m.rune) := he.cell' rfl
    have e5 : W.cell? ⟨A m.id, 5, none⟩ = some (.int .i64 m.st) := he.cell' rfl
    obtain ⟨va, vc, rfl⟩ := owns_sl hO
    have f0 := hJ.frozen 0 rfl 0
    have hlen2 : (L.take i).length ≤ 1000000 := by have := List.length_take_le i L; omega
    have hli : (L.take i).length = i := by rw [List.length_take]; omega
    have n1 : ¬ A m.id = w.heap.size := by have := hJ.low (A m.id) (.inr (.inr (.inl ⟨m.id, List.mem_map.2 ⟨m, List.mem_of_getElem? hm, rfl⟩, rfl⟩))); omega
    have hzl : w.heap.size < W.heap.size := (hJ.at_ 0 rfl).lt
    have hlit : SlAt nodeE (W.drew.alloc (.cells #[.int .i64 m.id.t, .int .i64 m.id.s, .int .i64 m.ref.t, .int .i64 m.ref.s, .int .i32 m.rune, .int .i64 m.st] 84)) (.slice (some ⟨W.heap.size, 0, none⟩) 1 1) [m] := SlAt.lit [m] _ (by simp [Enc.flat, nodeE, ndC]) (by unfold maxLen; simp)
    have hk1 : Kept (fun _ => False) W (W.drew.alloc (.cells #[.int .i64 m.id.t, .int .i64 m.id.s, .int .i64 m.ref.t, .int .i64 m.ref.s, .int .i32 m.rune, .int .i64 m.st] 84)) := ((Kept.refl _ _).drew).alloc _
    have hown := owns_keep hO hk1 (fun _ _ h => h)
    rw [show Value.slice va (L.take i).length vc = .slice va i vc by rw [hli]] at hown hO hJ hX
    have HOWN := Lib.hid hown
    have HK1 := Lib.hid hk1
    have HB := Lib.hid (show W0.heap.size + 2 ≤ (W.drew.alloc (.cells #[.int .i64 m.id.t, .int .i64 m.id.s, .int .i64 m.ref.t, .int .i64 m.ref.s, .int .i32 m.rune, .int .i64 m.st] 84)).heap.size by simp; omega)
    clear hown hk1
    have c0 : W.cell? ⟨w.heap.size, 0, none⟩ = some (.slice va i vc) := hJ.cell 0 rfl 0 rfl
    have HJ := Lib.hid hJ
    have HO := Lib.hid hO
    have HX := Lib.hid hX
    have H2 := Lib.hid h2
    have HM := Lib.hid hm
    have HLIT := Lib.hid hlit
    have HL2 := Lib.hid hlen2
    have HLI := Lib.hid hli
    clear hJ hO hX h2 hm hlit hlen2 hli he
    gi_wp2
    refine region_any (GroR nodeE 84 w W0.heap.size (fun _ => False) (nodesB w.heap.size g) g L A S mp (L.take i ++ [m]) X W) ?_ ?_
    focus
      gi_region_with ((refine step_append_in (w := W.drew.alloc (.cells #[.int .i64 m.id.t, .int .i64 m.id.s, .int .i64 m.ref.t, .int .i64 m.ref.s, .int .i32 m.rune, .int .i64 m.st] 84)) nodeE (.tmp 8) (.tmp 13) 51 rfl (W0.heap.size + 2) 84 (.agg #[.int .i64 0, .int .i64 0, .int .i64 0, .int .i64 0, .int .i32 0, .int .i64 0]) 48 Tryz.underlying51 info_node rfl (by decide) rfl rfl (by go_simp) HOWN.out HLIT.out HL2.out HB.out ?_; rintro v2 w2 ho2 hg2; have hJ2 := Gro.after HJ.out HO.out HK1.out hg2; rw [HLI.out] at ho2; obtain ⟨va2, vc2, rfl⟩ := owns_sl ho2; have d0 : w2.cell? ⟨w.heap.size, 0, none⟩ = some (.slice va i vc) := hJ2.cell 0 rfl 0 rfl; have g0 := hJ2.frozen 0 rfl 0; clear hJ2))
      all_goals exact ⟨rfl, Gro.appended HJ.out HO.out HX.out H2.out HK1.out hg2 (by rw [HLI.out]) ho2 0 rfl (nodesB_nodup ..) rfl⟩
    rintro a' W' ⟨ho, hG⟩
    gi_wp2
    refine ⟨ho.1, ho.2, ?_⟩
    show Gro _ _ _ _ _ _ _ _ _ _ _ _ _ _
    rw [List.take_add_one, HM.out]
    exact hG
  case done =>
    rintro X W hJ0 hK
    obtain ⟨v, hJ, hO, hX⟩ := hJ0
    rw [List.take_length] at hO
    have hO2 := hO
    obtain ⟨va, vc, rfl⟩ := owns_sl hO
    have c0 : W.cell? ⟨w.heap.size, 0, none⟩ = some (.slice va L.length vc) := hJ.cell 0 rfl 0 rfl
    have hle : L.length ≤ vc ∧ vc ≤ maxLen := by
      rcases (own_of hO).2 with ⟨h1, h2⟩ | ⟨b, cap, h1, _, h3⟩
      · injection h1 with _ h4 h5; exact ⟨by omega, by unfold maxLen; omega⟩
      · injection h1 with _ _ h5; subst h5; exact h3.le
    have hcl := clip_any va L.length vc hle.1 W
    have HJ := Lib.hid hJ
    have HO := Lib.hid hO
    have HK := Lib.hid hK
    clear hJ hO hX hK hO2 hle
    gi_wp2_with (refine ⟨trivial, ?_⟩; gi_at_call 100; refine (callsIn_wide.2 hcl).mono ?_; rintro e w' ⟨rfl, rfl⟩)
    have hC2 := HJ.out.taken (.deferred none)
    refine ret_range HK.out (results_tmp rfl _ _ _) ⟨⟨.slice va L.length L.length, rfl, ?_⟩, hC2.kept⟩
    have hO3 := owns_keep HO.out (kept_put w' W0.heap.size (.deferred none)) fun b hb e => by have := (owns_lt HO.out b hb).1; omega
    have hs0 := HJ.out.size.1
    rcases (own_of hO3).2 with ⟨h1, h2⟩ | ⟨b, cap, h1, h2, h3⟩
    · injection h1 with h4 h5 h6
      exact .inl ⟨by rw [h4, h5], h2⟩
    · injection h1 with h4 h5 h6
      exact .inr ⟨b, cap, by rw [h4], by omega, h3⟩
  case stop =>
    rintro c X W h _
    exact h.elim
end Go.Proofs.YtjohljmpcblpjaaGreatDoor.Tr
namespace Go.Proofs.YtjohljmpcblpjaaGreatDoor.Tr
open Go.RowKit Go.Proofs.YtjohljmpcblpjaaGreatDoor.St Go.Shelf
attribute [local go_sem] Oper.semAt_some
def shL (L : List Nd) : List Nd := L.filter fun n => decide (n.st = 1)
def shC (L : List Nd) (i : Nat) : Nat := (shL (L.take i)).length
theorem shC_up {L : List Nd} {i : Nat} {m : Nd} (hm : L[i]? = some m) (hs : m.st = 1) : shC L (i + 1) = shC L i + 1 ∧ (shL L)[shC L i]? = some m := by
  have hi := (List.getElem?_eq_some_iff.1 hm).1
  have hmm := (List.getElem?_eq_some_iff.1 hm).2
  have h1 : shL (L.take (i + 1)) = shL (L.take i) ++ [m] := by
    unfold shL; rw [List.take_add_one, hm, List.filter_append]; simp [hs]
  refine ⟨by unfold shC; rw [h1]; simp, ?_⟩
  have h2 : L = L.take (i + 1) ++ L.drop (i + 1) := (List.take_append_drop _ _).symm
  have h3 : shL L = shL (L.take (i + 1)) ++ shL (L.drop (i + 1)) := by conv => lhs; rw [h2]
                                                                       unfold shL; rw [List.filter_append]
  rw [h3, h1]
  unfold shC
  simp
theorem shC_same {L : List Nd} {i : Nat} {m : Nd} (hm : L[i]? = some m) (hs : ¬ m.st = 1) : shC L (i + 1) = shC L i := by
  unfold shC shL; rw [List.take_add_one, hm, List.filter_append]; simp [hs]
theorem shC_le (L : List Nd) (i : Nat) : shC L i ≤ L.length := by
  unfold shC shL
  have := List.length_filter_le (fun n : Nd => decide (n.st = 1)) (L.take i)
  have := List.length_take_le' i L
  omega
theorem shC_all (L : List Nd) : shC L L.length = (shL L).length := by unfold shC; rw [List.take_length]
def shEnc (L : List Nd) (A : ID → Nat) (i : Nat) : Array Value := #[.int .i64 i, .pointer (some ⟨A (nth (shL L) i).id, 0, none⟩)]
theorem yield_any {F : Fence} (hd : F.depth = none) {m : Nat} (m' l' : Nat) {P : Program} {l : Nat} {args : Array Value} {W : World} {R : Ending → World → Prop} (h : YieldAt F m P l args W R) :
    ∃ fn tmps assign body, (Instr.yield l args).run P W = .ok (.round l fn tmps assign body) W ∧ RoundIn (F.inRound l') m' P l fn tmps assign body W R := by
  obtain ⟨fn, tmps, assign, body, hy, hR⟩ := h
  exact ⟨fn, tmps, assign, body, hy, hR.1, fun c cs _ => hR.2 c cs fun d hd' => by rw [hd] at hd'; cases hd'⟩
structure ShB (z B g yl k : Nat) (X X' : Nat → Prop) (W : World) : Prop where
  y : Blk W z 224 #[.func (.yield yl) #[] #[]]
  n : Blk W (z + 1) 3 #[.int .i64 k]
  t : Blk W (z + 1 + 1) 102 #[.pointer (some ⟨g, 0, none⟩)]
  sub : ∀ b, X b → X' b ∧ B ≤ b
  own : X' z ∧ X' (z + 1) ∧ X' (z + 1 + 1) ∧ X' B ∧ X' (B + 1)
  lt : z + 3 ≤ B
  sz : B ≤ W.heap.size
theorem ShB.keep {z B g yl k : Nat} {X X' Y Y' U : Nat → Prop} {W W' : World} (h : ShB z B g yl k X X' W) (hk : Kept U W W') (hU : ∀ b, U b → B ≤ b) (hX : ∀ b, X' b → Y' b) (hY : ∀ b, Y b → Y' b ∧ B ≤ b) : ShB z B g yl k Y Y' W' where
  y := hk.blk (fun h1 => by have := hU _ h1; have := h.lt; omega) h.y
  n := hk.blk (fun h1 => by have := hU _ h1; have := h.lt; omega) h.n
  t := hk.blk (fun h1 => by have := hU _ h1; have := h.lt; omega) h.t
  sub := hY
  own := ⟨hX _ h.own.1, hX _ h.own.2.1, hX _ h.own.2.2.1, hX _ h.own.2.2.2.1, hX _ h.own.2.2.2.2⟩
  lt := h.lt
  sz := Nat.le_trans h.sz hk.size
/-- the rounds' state: the outer one's, and the boxes -/
def shownJ (I : Nat → (Nat → Prop) → World → Prop) (z B g yl : Nat) (L : List Nd) (i : Nat) (X : Nat → Prop) (W : World) : Prop := ∃ X', I (shC L i) X' W ∧ ShB z B g yl (shC L i) X X' W
def shownX (Z : (Nat → Prop) → World → Prop) (B : Nat) (c : Code) (X : Nat → Prop) (W : World) : Prop := c = .ret ∧ ∃ X', Z X' W ∧ (∀ b, X b → X' b) ∧ X' B ∧ X' (B + 1)
set_option maxHeartbeats 8000000 in
theorem shown1_iter {L : List Nd} {A : ID → Nat} {S : ID → Rw} {mp : Option Nat} {pl g : Nat} (hdoc : Doc L) (hlen : L.length ≤ 900000) :
    IterOk Fence.wide 5 Tryz.prog 160 #[.pointer (some ⟨pl, 0, none⟩)] (shL L).length (shEnc L A) (fun w => w.cell? ⟨pl, 0, none⟩ = some (.pointer (some ⟨g, 0, none⟩)) ∧ TAt w g L A S mp) := by
  intro yl I Z X0 w hrd hgr hgz hy h0
  have RD := Lib.hid hrd
  have GR := Lib.hid hgr
  have GZ := Lib.hid hgz
  have HY := Lib.hid hy
  have r0 := (hrd _ _ _ h0).1
  have hpl : pl < w.heap.size := World.block_lt_of_cell? w _ r0
  clear hrd hgr hgz hy
  refine callsIn_of_wp_marks Tryz.func160 rfl trivial ?_ rfl
  simp only [Tryz.ntmps160, List.size_toArray, List.length_cons, List.length_nil, Nat.reduceAdd, Nat.reduceSub, Array.replicate_succ, Array.replicate_zero, List.push_toArray, List.append_toArray, List.nil_append, List.cons_append]
  gi_wp2_with (refine ⟨trivial, ?_⟩; gi_at_call 99; refine (callsIn_wide.2 (all_any g _)).mono ?_; rintro e w' ⟨rfl, rfl⟩)
  obtain ⟨W0, hW0⟩ : ∃ W0, (((w.alloc (.cells #[.func (.yield yl) #[] #[]] 224)).alloc (.cells #[.int .i64 0] 3)).alloc (.cells #[.pointer (some ⟨g, 0, none⟩)] 102)) = W0 := ⟨_, rfl⟩
  have z0 : W0.heap.size = w.heap.size + 3 := by rw [← hW0]; simp
  have k0 : Kept (fun _ => False) w W0 := by rw [← hW0]; exact (((Kept.refl _ _).alloc _).alloc _).alloc _
  have b0 : Blk W0 w.heap.size 224 #[.func (.yield yl) #[] #[]] := by rw [← hW0]; exact ((Blk.new _ _ _).alloc _).alloc _
  have b1 : Blk W0 (w.heap.size + 1) 3 #[.int .i64 0] := by rw [← hW0]; have h9 := Blk.new (w.alloc (.cells #[.func (.yield yl) #[] #[]] 224)) 3 #[.int .i64 0]; simp only [World.size_alloc] at h9; exact h9.alloc _
  have b2 : Blk W0 (w.heap.size + 1 + 1) 102 #[.pointer (some ⟨g, 0, none⟩)] := by rw [← hW0]; have h9 := Blk.new ((w.alloc (.cells #[.func (.yield yl) #[] #[]] 224)).alloc (.cells #[.int .i64 0] 3)) 102 #[.pointer (some ⟨g, 0, none⟩)]; simp only [World.size_alloc] at h9; exact h9
  have Z0 := Lib.hid z0
  have K0 := Lib.hid k0
  have H0 := Lib.hid h0
  have B0 := Lib.hid (And.intro b0 (And.intro b1 b2))
  rw [hW0]
  clear hW0 z0 k0 h0 b0 b1 b2 r0
  refine wpIn_iter rfl (by decide) (gf := 140) (lb := #[.pointer (some ⟨w.heap.size + 1 + 1, 0, none⟩)]) rfl trivial (enters_of Tryz.func140 (by kernel_rfl) rfl) (all1_iter (A := A) (S := S) (g := g) trivial rfl (by decide) hdoc hlen) (fun _ _ => rfl) W0.heap.size rfl (shownJ I w.heap.size W0.heap.size g yl L) (shownX Z W0.heap.size) ?hrd ?hgr ?hgx ?hob ?hox ?h0 ?round ?done ?stop
  case hrd => rintro i X W ⟨X', h1, h2⟩; exact ⟨h2.t.cell' rfl, (RD.out _ _ _ h1).2.shape⟩
  case hgr =>
    rintro i X W W' ⟨X', h1, h2⟩ hk
    exact ⟨_, GR.out _ _ _ _ h1 (hk.mono fun b _ h => (h2.sub b h).1), h2.keep hk (fun b hb => (h2.sub b hb).2) (fun _ h => .inl h) fun b hb => by
      rcases hb with hb | hb
      · exact ⟨.inl (h2.sub b hb).1, (h2.sub b hb).2⟩
      · exact ⟨.inr hb, by have := h2.sz; omega⟩⟩
  case hgx =>
    rintro c X W W' ⟨hc, X', h1, h2, h3, h4⟩ hk
    exact ⟨hc, _, GZ.out _ _ _ h1 (hk.mono fun b _ h => h2 b h), fun b hb => hb.imp (h2 b) id, .inl h3, .inl h4⟩
  case hob =>
    rintro i X W o' ⟨X', h1, h2⟩
    have hk := kept_put W (W0.heap.size + 1) o'
    exact ⟨_, GR.out _ _ _ _ h1 (hk.mono fun b _ h => by rw [h]; exact h2.own.2.2.2.2), h2.keep hk (fun b hb => by rw [hb]; omega) (fun _ h => .inl h) fun b hb => ⟨.inl (h2.sub b hb).1, (h2.sub b hb).2⟩⟩
  case hox =>
    rintro c X W o' ⟨hc, X', h1, h2, h3, h4⟩
    have hk := kept_put W (W0.heap.size + 1) o'
    exact ⟨hc, _, GZ.out _ _ _ h1 (hk.mono fun b _ h => by rw [h]; exact h4), fun b hb => .inl (h2 b hb), .inl h3, .inl h4⟩
  case h0 =>
    intro o1 o2
    have hz := Z0.out
    have hk : Kept X0 w ((W0.alloc o1).alloc o2) := ((K0.out.alloc _).alloc _).mono fun _ _ h => h.elim
    have hs : ((W0.alloc o1).alloc o2).heap.size = w.heap.size + 5 := by simp; omega
    refine ⟨_, GR.out _ _ _ _ H0.out hk, ?_⟩
    obtain ⟨b0, b1, b2⟩ := B0.out
    exact { y := (b0.alloc _).alloc _, n := (b1.alloc _).alloc _, t := (b2.alloc _).alloc _, sub := fun _ h => h.elim, lt := by omega, sz := by simp; omega,
            own := ⟨.inr ⟨by omega, by omega⟩, .inr ⟨by omega, by omega⟩, .inr ⟨by omega, by omega⟩, .inr ⟨by omega, by omega⟩, .inr ⟨by omega, by omega⟩⟩ }
  case round =>
    intro i W K hi hK
    have hm := nth_lt hi
    unfold allEnc
    generalize nth L i = m at hm ⊢
    gi_wp2
    rintro X W h2 ⟨X', hI, hB⟩
    have he := (RD.out _ _ _ hI).2.elt m (List.mem_of_getElem? hm)
    have e5 : W.cell? ⟨A m.id, 5, none⟩ = some (.int .i64 m.st) := he.cell' rfl
    have c0 : W.cell? ⟨w.heap.size, 0, none⟩ = some (.func (.yield yl) #[] #[]) := hB.y.cell' rfl
    have c1 : W.cell? ⟨w.heap.size + 1, 0, none⟩ = some (.int .i64 (shC L i)) := hB.n.cell' rfl
    have f1 := hB.n.frozen 0
    have H2 := Lib.hid h2
    have HI := Lib.hid hI
    have HB := Lib.hid hB
    have HM := Lib.hid hm
    clear h2 hI hB hm he
    by_cases q5 : m.st = 1
    · obtain ⟨u1, u2⟩ := shC_up HM.out q5
      have hk0 : shC L i < (shL L).length := (List.getElem?_eq_some_iff.1 u2).1
      have hyy := HY.out _ _ _ hk0 HI.out
      unfold shEnc at hyy
      rw [nth_some u2] at hyy
      have hle := shC_le L i
      have hs1 : (0 : Int) ≤ shC L i := by omega
      have hs2 : ((shC L i : Nat) : Int) ≤ 900000 := by omega
      obtain ⟨fn, tmps, assign, body, hy, hR⟩ := yield_any rfl 2 (W0.heap.size + 1) hyy
      have U1 := Lib.hid u1
      have HRR := Lib.hid hR
      clear u1 u2 hk0 hyy hle hR
      gi_wp2
      refine HRR.out.mono ?_
      rintro e w2 ⟨bb, rfl, hX2, hz2, ht, hf⟩
      have hsub : ∀ x, X x ∨ x = W0.heap.size ∨ x = W0.heap.size + 1 → w2.heap[x]? = W.heap[x]? := fun x hx => hX2 x (by
        rcases hx with hx | rfl | rfl
        · exact (HB.out.sub x hx).1
        · exact HB.out.own.2.2.2.1
        · exact HB.out.own.2.2.2.2)
      have HS := Lib.hid hsub
      have HZ2 := Lib.hid hz2
      have hBk : ∀ g' T us, X' g' → Blk W g' T us → Blk w2 g' T us := fun g' T us h1 h2 => (hX2 g' h1).trans h2
      cases bb with
      | false =>
        have ZZ := Lib.hid (hf rfl)
        clear ht hf hX2 hz2 hsub hBk e5 c0 c1 f1 hy
        gi_wp2
        exact ⟨HS.out, HZ2.out, rfl, X', ZZ.out, fun b hb => (HB.out.sub b hb).1, HB.out.own.2.2.2.1, HB.out.own.2.2.2.2⟩
      | true =>
        have II := Lib.hid (ht rfl)
        have hB2 : ShB w.heap.size W0.heap.size g yl (shC L i) X X' w2 :=
          { y := hBk _ _ _ HB.out.own.1 HB.out.y, n := hBk _ _ _ HB.out.own.2.1 HB.out.n, t := hBk _ _ _ HB.out.own.2.2.1 HB.out.t, sub := HB.out.sub, own := HB.out.own, lt := HB.out.lt, sz := Nat.le_trans HB.out.sz hz2 }
        have d1 : w2.cell? ⟨w.heap.size + 1, 0, none⟩ = some (.int .i64 (shC L i)) := hB2.n.cell' rfl
        have g1 := hB2.n.frozen 0
        have HB2 := Lib.hid hB2
        clear ht hf hX2 hz2 hsub hBk e5 c0 c1 f1 hy hB2
        gi_wp2
        have hk := kept_cell w2 (w.heap.size + 1) (.int .i64 ((shC L i : Int) + 1))
        have hlt := HB.out.lt
        refine ⟨fun x hx => ?_, Nat.le_trans HZ2.out hk.size, _, (by rw [U1.out]; exact GR.out _ _ _ _ II.out (hk.mono fun b _ h => by rw [h]; exact HB.out.own.2.1)), ?_⟩
        · have hne : x ≠ w.heap.size + 1 := by
            rcases hx with hx | hx | hx
            · have := (HB.out.sub x hx).2; omega
            · omega
            · omega
          exact (Below.heap_setCell _ _ _ _ hne).trans (HS.out x hx)
        · rw [U1.out]
          have hb := HB2.out
          exact { y := hk.blk (by omega) hb.y, n := hb.n.set_ 0 _, t := hk.blk (by omega) hb.t, sub := fun b hb' => ⟨.inl (hb.sub b hb').1, (hb.sub b hb').2⟩, lt := hb.lt, sz := Nat.le_trans hb.sz hk.size,
                  own := ⟨.inl hb.own.1, .inl hb.own.2.1, .inl hb.own.2.2.1, .inl hb.own.2.2.2.1, .inl hb.own.2.2.2.2⟩ }
    · have U1 := Lib.hid (shC_same HM.out q5)
      gi_wp2
      exact ⟨fun _ _ => rfl, Nat.le_refl _, X', by rw [U1.out]; exact HI.out, by rw [U1.out]; exact HB.out⟩
  case done =>
    rintro X W ⟨X', h1, h2⟩ hK
    rw [shC_all] at h1
    have H1 := Lib.hid h1
    have H2 := Lib.hid h2
    have HK := Lib.hid hK
    clear h1 h2 hK
    gi_wp2
    exact ret_range HK.out (results_none rfl _ _ _) ⟨⟨_, rfl⟩, .inl ⟨_, GR.out _ _ _ _ H1.out ((kept_put W W0.heap.size (.deferred none)).mono fun b _ h => by rw [h]; exact H2.out.own.2.2.2.1)⟩⟩
  case stop =>
    rintro c X W ⟨rfl, X', h1, h2, h3, h4⟩ hK
    have H1 := Lib.hid h1
    have HK := Lib.hid hK
    clear h1 h2 hK
    gi_wp2
    exact ret_range HK.out (results_none rfl _ _ _) ⟨⟨_, rfl⟩, .inr ⟨_, GZ.out _ _ _ H1.out ((kept_put W W0.heap.size (.deferred none)).mono fun b _ h => by rw [h]; exact h3)⟩⟩
end Go.Proofs.YtjohljmpcblpjaaGreatDoor.Tr
namespace Go.Proofs.YtjohljmpcblpjaaGreatDoor.Tr
open Go.RowKit Go.Proofs.YtjohljmpcblpjaaGreatDoor.St Go.Shelf
attribute [local go_sem] Oper.semAt_some
theorem shown_any (g : Nat) (w : World) : Calls Tryz.prog 131 #[.pointer (some ⟨g, 0, none⟩)] w fun e w' =>
    e = .returned (.func (.func 160) #[] #[.pointer (some ⟨w.heap.size, 0, none⟩)]) ∧ w' = w.alloc (.cells #[.pointer (some ⟨g, 0, none⟩)] 102) := by
  go_enter Tryz.func131, Tryz.ntmps131
  go_wp2
  go_ret
  exact ⟨rfl, rfl⟩
theorem shL_le (L : List Nd) : (shL L).length ≤ L.length := List.length_filter_le _ _
def lenB (z g : Nat) (k : Int) : List Box := [(z, 3, #[.int .i64 k]), (z + 1, 102, #[.pointer (some ⟨g, 0, none⟩)])]
theorem lenB_nodup (z g : Nat) (k : Int) : ((lenB z g k).map (·.1)).Nodup := by simp [lenB]
def lenJ (w : World) (B g : Nat) (L : List Nd) (A : ID → Nat) (S : ID → Rw) (mp : Option Nat) (i : Nat) (X : Nat → Prop) (W : World) : Prop := CJ w B (fun _ => False) (lenB w.heap.size g i) g L A S mp X W
end Go.Proofs.YtjohljmpcblpjaaGreatDoor.Tr
namespace Go.Proofs.YtjohljmpcblpjaaGreatDoor.Tr
open Go.RowKit Go.Proofs.YtjohljmpcblpjaaGreatDoor.St Go.Shelf
attribute [local go_sem] Oper.semAt_some
def allJ (w : World) (B g : Nat) (L : List Nd) (A : ID → Nat) (S : ID → Rw) (mp : Option Nat) (i : Nat) (X : Nat → Prop) (W : World) : Prop :=
  Gro nodeE 84 w B (fun _ => False) (nodesB w.heap.size g) g L A S mp ((shL L).take i) X W
set_option maxRecDepth 100000 in
set_option maxHeartbeats 8000000 in
theorem allf_any {w : World} {g : Nat} {L : List Nd} {A : ID → Nat} {S : ID → Rw} {mp : Option Nat} (h : TAt w g L A S mp) (hdoc : Doc L) (hlen : L.length ≤ 900000) :
    Calls Tryz.prog 91 #[.pointer (some ⟨g, 0, none⟩)] w fun e w' => (∃ b v, e = .returned (.func (.func 132) #[] #[.pointer (some ⟨b, 0, none⟩)]) ∧ w.heap.size ≤ b ∧ Blk w' b 51 #[v] ∧ w'.ownsRow w.heap.size 84 6 v (shL L).length (nodeE.flat (shL L))) ∧ Kept (fun _ => False) w w' := by
  refine (callsIn_wide (n := 6)).1 ?_
  refine callsIn_of_wp_marks Tryz.func91 rfl trivial ?_ rfl
  simp only [Tryz.ntmps91, List.size_toArray, List.length_cons, List.length_nil, Nat.reduceAdd, Nat.reduceSub, Array.replicate_succ, Array.replicate_zero, List.push_toArray, List.append_toArray, List.nil_append, List.cons_append]
  gi_wp2_with (refine ⟨trivial, ?_⟩; gi_at_call 131; refine (callsIn_wide.2 (shown_any g _)).mono ?_; rintro e w' ⟨rfl, rfl⟩)
  obtain ⟨W0, hW0⟩ : ∃ W0, ((w.alloc (.cells #[.slice none 0 0] 51)).alloc (.cells #[.pointer (some ⟨g, 0, none⟩)] 102)) = W0 := ⟨_, rfl⟩
  have hC : CJ w W0.heap.size (fun _ => False) (nodesB w.heap.size g (.slice none 0 0)) g L A S mp (fun _ => False) W0 := by
    rw [← hW0]
    have h9 := (((CJ.start (M := fun _ => False) h).boxed #[.slice none 0 0] 51)).boxed #[.pointer (some ⟨g, 0, none⟩)] 102
    simp only [World.size_alloc] at h9 ⊢
    exact h9
  rw [hW0]
  clear hW0
  refine wpIn_iter rfl (by decide) (gf := 160) (lb := #[.pointer (some ⟨w.heap.size + 1, 0, none⟩)]) rfl trivial (enters_of Tryz.func160 (by kernel_rfl) rfl) (shown1_iter (A := A) (S := S) (g := g) (mp := mp) hdoc hlen) (fun _ _ => rfl) W0.heap.size rfl (allJ w W0.heap.size g L A S mp) (fun _ _ _ => False) ?hrd ?hgr ?hgx ?hob ?hox ?h0 ?round ?done ?stop
  case hrd => rintro i X W ⟨v, hJ, _⟩; exact ⟨hJ.cell 1 rfl 0 rfl, hJ.tree⟩
  case hgr => intro i X W W' hJ hk; exact Gro.grow hJ hk
  case hgx => intro c X W W' h _; exact h
  case hob => intro i X W o' hJ; exact Gro.put hJ o'
  case hox => intro c X W o' hJ; exact hJ
  case h0 =>
    intro o1 o2
    have h9 : Gro nodeE 84 w W0.heap.size (fun _ => False) (nodesB w.heap.size g) g L A S mp [] (fun _ => False) W0 := ⟨_, hC, World.ownsRow_nil .., fun b hb => by cases hb⟩
    exact (h9.alloc o1).alloc o2
  case round =>
    intro i W K hi hK
    have hm := nth_lt hi
    unfold shEnc
    generalize nth (shL L) i = m at hm ⊢
    gi_wp2
    rintro X W h2 ⟨v, hJ, hO, hX⟩
    have hmL : m ∈ L := (List.mem_filter.1 (List.mem_of_getElem? hm)).1
    have he := hJ.tree.elt m hmL
    have e0 : W.cell? ⟨A m.id, 0, none⟩ = some (.int .i64 m.id.t) := he.cell' rfl
    have e1 : W.cell? ⟨A m.id, 1, none⟩ = some (.int .i64 m.id.s) := he.cell' rfl
    have e2 : W.cell? ⟨A m.id, 2, none⟩ = some (.int .i64 m.ref.t) := he.cell' rfl
    have e3 : W.cell? ⟨A m.id, 3, none⟩ = some (.int .i64 m.ref.s) := he.cell' rfl
    have e4 : W.cell? ⟨A m.id, 4, none⟩ = some (.int .i32 m.rune) := he.cell' rfl
    have e5 : W.cell? ⟨A m.id, 5, none⟩ = some (.int .i64 m.st) := he.cell' rfl
    obtain ⟨va, vc, rfl⟩ := owns_sl hO
    have f0 := hJ.frozen 0 rfl 0
    have hlen2 : ((shL L).take i).length ≤ 1000000 := by have := List.length_take_le i (shL L); have := shL_le L; omega
    have hli : ((shL L).take i).length = i := by rw [List.length_take]; omega
    have n1 : ¬ A m.id = w.heap.size := by have := hJ.low (A m.id) (.inr (.inr (.inl ⟨m.id, List.mem_map.2 ⟨m, hmL, rfl⟩, rfl⟩))); omega
    have hzl : w.heap.size < W.heap.size := (hJ.at_ 0 rfl).lt
    have hlit : SlAt nodeE (W.drew.alloc (.cells #[.int .i64 m.id.t, .int .i64 m.id.s, .int .i64 m.ref.t, .int .i64 m.ref.s, .int .i32 m.rune, .int .i64 m.st] 84)) (.slice (some ⟨W.heap.size, 0, none⟩) 1 1) [m] := SlAt.lit [m] _ (by simp [Enc.flat, nodeE, ndC]) (by unfold maxLen; simp)
    have hk1 : Kept (fun _ => False) W (W.drew.alloc (.cells #[.int .i64 m.id.t, .int .i64 m.id.s, .int .i64 m.ref.t, .int .i64 m.ref.s, .int .i32 m.rune, .int .i64 m.st] 84)) := ((Kept.refl _ _).drew).alloc _
    have hown := owns_keep hO hk1 (fun _ _ h => h)
    rw [show Value.slice va ((shL L).take i).length vc = .slice va i vc by rw [hli]] at hown hO hJ hX
    have HOWN := Lib.hid hown
    have HK1 := Lib.hid hk1
    have HB := Lib.hid (show W0.heap.size + 2 ≤ (W.drew.alloc (.cells #[.int .i64 m.id.t, .int .i64 m.id.s, .int .i64 m.ref.t, .int .i64 m.ref.s, .int .i32 m.rune, .int .i64 m.st] 84)).heap.size by simp; omega)
    clear hown hk1
    have c0 : W.cell? ⟨w.heap.size, 0, none⟩ = some (.slice va i vc) := hJ.cell 0 rfl 0 rfl
    have HJ := Lib.hid hJ
    have HO := Lib.hid hO
    have HX := Lib.hid hX
    have H2 := Lib.hid h2
    have HM := Lib.hid hm
    have HLIT := Lib.hid hlit
    have HL2 := Lib.hid hlen2
    have HLI := Lib.hid hli
    clear hJ hO hX h2 hm hlit hlen2 hli he hmL
    gi_wp2
    refine region_any (GroR nodeE 84 w W0.heap.size (fun _ => False) (nodesB w.heap.size g) g L A S mp ((shL L).take i ++ [m]) X W) ?_ ?_
    focus
      gi_region_with ((refine step_append_in (w := W.drew.alloc (.cells #[.int .i64 m.id.t, .int .i64 m.id.s, .int .i64 m.ref.t, .int .i64 m.ref.s, .int .i32 m.rune, .int .i64 m.st] 84)) nodeE (.tmp 10) (.tmp 15) 51 rfl (W0.heap.size + 2) 84 (.agg #[.int .i64 0, .int .i64 0, .int .i64 0, .int .i64 0, .int .i32 0, .int .i64 0]) 48 Tryz.underlying51 info_node rfl (by decide) rfl rfl (by go_simp) HOWN.out HLIT.out HL2.out HB.out ?_; rintro v2 w2 ho2 hg2; have hJ2 := Gro.after HJ.out HO.out HK1.out hg2; rw [HLI.out] at ho2; obtain ⟨va2, vc2, rfl⟩ := owns_sl ho2; have d0 : w2.cell? ⟨w.heap.size, 0, none⟩ = some (.slice va i vc) := hJ2.cell 0 rfl 0 rfl; have g0 := hJ2.frozen 0 rfl 0; clear hJ2))
      all_goals exact ⟨rfl, Gro.appended HJ.out HO.out HX.out H2.out HK1.out hg2 (by rw [HLI.out]) ho2 0 rfl (nodesB_nodup ..) rfl⟩
    rintro a' W' ⟨ho, hG⟩
    gi_wp2
    refine ⟨ho.1, ho.2, ?_⟩
    show Gro _ _ _ _ _ _ _ _ _ _ _ _ _ _
    rw [List.take_add_one, HM.out]
    exact hG
  case done =>
    rintro X W hJ0 hK
    obtain ⟨v, hJ, hO, hX⟩ := hJ0
    rw [List.take_length] at hO
    have HJ := Lib.hid hJ
    have HO := Lib.hid hO
    have HK := Lib.hid hK
    clear hJ hO hX hK
    gi_wp2
    have hC2 := HJ.out.taken (.deferred none)
    have hO3 := owns_keep HO.out (kept_put W W0.heap.size (.deferred none)) fun b hb e => by have := (owns_lt HO.out b hb).1; omega
    have hs0 := HJ.out.size.1
    refine ret_range HK.out (results_tmp rfl _ _ _) ⟨⟨w.heap.size, rfl, Nat.le_refl _, v, hC2.at_ 0 rfl, hO3.1, ?_⟩, hC2.kept⟩
    rcases hO3.2 with h5 | ⟨g', cap, cur, e1, e2, e3⟩
    · exact .inl h5
    · exact .inr ⟨g', cap, cur, e1, by omega, e3⟩
  case stop =>
    rintro c X W h _
    exact h.elim
end Go.Proofs.YtjohljmpcblpjaaGreatDoor.Tr
