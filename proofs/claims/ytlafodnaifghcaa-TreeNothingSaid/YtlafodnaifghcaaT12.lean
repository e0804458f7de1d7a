/- A state turned in memory. A row that grows through the rounds. -/
import Derived.Test.YtlafodnaifghcaaT11
import Derived.Test.YtlafodnaifghcaaT6
import Derived.Stop.RegionWithIn
namespace Go.Proofs.Ytlafodnaifghcaa.Tr
open Go.RowKit Go.Proofs.Ytlafodnaifghcaa.St Go.Shelf
abbrev key (n : Nd) : ID × ID := (n.id, n.ref)
theorem key_ids {L L' : List Nd} (h : L'.map key = L.map key) : ids L' = ids L := by
  have := congrArg (List.map Prod.fst) h
  rw [List.map_map, List.map_map] at this
  exact this
theorem key_kids {L L' : List Nd} (h : L'.map key = L.map key) (r : ID) (A : ID → Nat) : (kids L' r).map (fun n => A n.id) = (kids L r).map (fun n => A n.id) := by
  have e : ∀ M : List Nd, (kids M r).map (fun n => A n.id) = ((M.map key).filter (fun p => decide (p.2 = r))).map (fun p => A p.1) := fun M => by
    rw [List.filter_map, List.map_map]; rfl
  rw [e, e, h]
theorem key_foot {L L' : List Nd} (h : L'.map key = L.map key) {g : Nat} {A : ID → Nat} {S : ID → Rw} {mp : Option Nat} {b : Nat} : foot g L' A S mp b ↔ foot g L A S mp b := by
  unfold foot Ref; rw [key_ids h]
theorem Shape.key {w : World} {g : Nat} {L L' : List Nd} {A : ID → Nat} {S : ID → Rw} (hs : Shape w g L A S) (h : L'.map key = L.map key) : Shape w g L' A S where
  root := hs.root
  beh := fun n hn => by
    have h1 : n.id ∈ ids L := by rw [← key_ids h]; exact List.mem_map.2 ⟨n, hn, rfl⟩
    obtain ⟨m, hm, e⟩ := List.mem_map.1 h1
    have := hs.beh m hm
    rwa [e] at this
  row := fun r hr => by
    rw [key_ids h] at hr
    rw [key_kids h]
    exact hs.row r hr
theorem RowAt.ne {w : World} {s : Rw} {D : List Nat} (h : RowAt w s D) {g : Nat} {cs : Array Value} {t : TypeId} (hb : Blk w g t cs) (ht : t ≠ 75) : ∀ b, s.blk = some b → ¬ b = g := by
  rintro b hs rfl
  rcases h with ⟨rfl, _⟩ | ⟨b', cap, rfl, cs', h1, _⟩
  · cases hs
  · cases hs
    exact Blk.ne_ hb h1 ht rfl
/-- one element's state written over -/
theorem TAt.state {w : World} {g : Nat} {P Q : List Nd} {m : Nd} {A : ID → Nat} {S : ID → Rw} {mp : Option Nat} (h : TAt w g (P ++ m :: Q) A S mp) (hnd : (ids (P ++ m :: Q)).Nodup) (st : Int) :
    TAt (w.setCell ⟨A m.id, 5, none⟩ (.int .i64 st)) g (P ++ { m with st := st } :: Q) A S mp := by
  have hk : Kept (· = A m.id) w (w.setCell ⟨A m.id, 5, none⟩ (.int .i64 st)) := (Kept.refl (· = A m.id) w).setCell (p := ⟨A m.id, 5, none⟩) (fun _ => rfl) _
  have hm : m ∈ P ++ m :: Q := by simp
  have hmi : m.id ∈ ids (P ++ m :: Q) := List.mem_map.2 ⟨m, hm, rfl⟩
  have he := h.elt m hm
  have hkey : (P ++ { m with st := st } :: Q).map key = (P ++ m :: Q).map key := by simp [key]
  have hids := key_ids hkey
  have hne : ∀ n ∈ P ++ Q, n.id ≠ m.id := fun n hn e => by
    rw [ids_append] at hnd
    obtain ⟨n1, n2, n3⟩ := List.nodup_append.1 hnd
    rcases List.mem_append.1 hn with hn | hn
    · exact n3 _ (List.mem_map.2 ⟨n, hn, rfl⟩) m.id List.mem_cons_self e
    · exact (List.nodup_cons.1 n2).1 (List.mem_map.2 ⟨n, hn, e⟩)
  refine { top := hk.blk (fun e => ?_) h.top, elt := fun n hn => ?_, row := fun r hr => ?_, by_ := ?_, one := by rw [hids]; exact h.one, far := fun x y hx hy => ?_ }
  · exact Blk.ne_ h.top he (by decide) e
  · have hn2 : n = { m with st := st } ∨ n ∈ P ++ Q := by
      rcases List.mem_append.1 hn with hn | hn
      · exact .inr (List.mem_append_left _ hn)
      · rcases List.mem_cons.1 hn with hn | hn
        · exact .inl hn
        · exact .inr (List.mem_append_right _ hn)
    rcases hn2 with rfl | hn2
    · exact he.set_ 5 (.int .i64 st)
    · have hn3 : n ∈ P ++ m :: Q := by rcases List.mem_append.1 hn2 with h1 | h1; exact List.mem_append_left _ h1; exact List.mem_append_right _ (List.mem_cons_of_mem _ h1)
      exact hk.blk (fun e => hne n hn2 (h.one _ (List.mem_map.2 ⟨n, hn3, rfl⟩) _ hmi e)) (h.elt n hn3)
  · have hr2 : Ref (P ++ m :: Q) r := by unfold Ref at hr ⊢; rwa [hids] at hr
    rw [key_kids hkey]
    exact (h.row r hr2).keep hk ((h.row r hr2).ne he (by decide))
  · rcases h.by_ with ⟨h1, h2⟩ | ⟨b, kvs, h1, h2, h3, h4, h5⟩
    · simp at h2
    · refine .inr ⟨b, kvs, h1, h2.keep hk fun e => h2.ne_blk he e.symm, h3, by rw [h4]; simp, fun x => by rw [h5 x, hids]⟩
  · unfold Ref at hx hy
    rw [hids] at hx hy
    exact h.far x y hx hy
variable {w W W' : World} {B : Nat} {M : Nat → Prop} {bs : List Box} {g : Nat} {L : List Nd} {A : ID → Nat} {S : ID → Rw} {mp : Option Nat} {X : Nat → Prop}
theorem CJ.state {P Q : List Nd} {m : Nd} (h : CJ w B M bs g (P ++ m :: Q) A S mp X W) (hnd : (ids (P ++ m :: Q)).Nodup) (hM : M (A m.id)) (st : Int) : CJ w B M bs g (P ++ { m with st := st } :: Q) A S mp X (W.setCell ⟨A m.id, 5, none⟩ (.int .i64 st)) := by
  have hk : Kept (· = A m.id) W (W.setCell ⟨A m.id, 5, none⟩ (.int .i64 st)) := (Kept.refl (· = A m.id) W).setCell (p := ⟨A m.id, 5, none⟩) (fun _ => rfl) _
  have hl : A m.id < w.heap.size := h.low _ (.inr (.inr (.inl ⟨m.id, List.mem_map.2 ⟨m, by simp, rfl⟩, rfl⟩)))
  have hkey : (P ++ { m with st := st } :: Q).map key = (P ++ m :: Q).map key := by simp [key]
  exact { box := fun x hx => ⟨(h.box x hx).1, hk.blk (fun e => by have := (h.box x hx).1.1; have e : x.1 = A m.id := e; omega) (h.box x hx).2⟩
          tree := h.tree.state hnd st
          low := fun b hb => h.low b ((key_foot hkey).1 hb)
          far := fun b hb => ⟨(h.far b hb).1, by rw [World.size_setCell]; exact (h.far b hb).2⟩
          size := ⟨h.size.1, by rw [World.size_setCell]; exact h.size.2⟩
          kept := h.kept.trans hk fun b _ e => by rw [e]; exact hM }
theorem CJ.grew (h : CJ w B M bs g L A S mp X W) (hg : Kept (fun _ => False) W W') : CJ w B M bs g L A S mp X W' := h.step hg fun _ h => h.elim
end Go.Proofs.Ytlafodnaifghcaa.Tr
namespace Go.Proofs.Ytlafodnaifghcaa.Tr
open Go.RowKit Go.Proofs.Ytlafodnaifghcaa.St Go.Shelf
attribute [local go_sem] Oper.semAt_some
/-- a row that grows: what a box holds -/
def Gro {α : Type} (E : Enc α) (t : TypeId) (w : World) (B : Nat) (M : Nat → Prop) (f : Value → List Box) (g : Nat) (L : List Nd) (A : ID → Nat) (S : ID → Rw) (mp : Option Nat) (D : List α) (X : Nat → Prop) (W : World) : Prop :=
  ∃ v, CJ w B M (f v) g L A S mp X W ∧ W.ownsRow (B + 2) t E.k v D.length (E.flat D) ∧ ∀ b, v.ownBlock = some b → ¬ X b
variable {α : Type} {E : Enc α} {t : TypeId} {w W W' : World} {B : Nat} {M : Nat → Prop} {f : Value → List Box} {g : Nat} {L : List Nd} {A : ID → Nat} {S : ID → Rw} {mp : Option Nat} {D : List α} {X : Nat → Prop}
theorem owns_lt {w : World} {base n size : Nat} {e : TypeId} {v : Value} {xs : List Value} (h : w.ownsRow base e size v n xs) : ∀ b, v.ownBlock = some b → base ≤ b ∧ b < w.heap.size := fun b hb => by
  rcases h.2 with ⟨rfl, _⟩ | ⟨g, cap, cur, rfl, hbg, hg, _⟩
  · cases hb
  · cases hb; exact ⟨hbg, Blk.lt (t := e) (cs := cur) hg⟩
theorem Gro.grow (h : Gro E t w B M f g L A S mp D X W) (hk : Kept X W W') : Gro E t w B M f g L A S mp D (fun b => X b ∨ (W.heap.size ≤ b ∧ b < W'.heap.size)) W' := by
  obtain ⟨v, hJ, hO, hX⟩ := h
  refine ⟨v, hJ.grow hk, owns_keep hO hk hX, fun b hb => ?_⟩
  have := (owns_lt hO b hb).2
  rintro (h1 | h1)
  · exact hX b hb h1
  · omega
theorem Gro.step {Y : Nat → Prop} (h : Gro E t w B M f g L A S mp D X W) (hk : Kept Y W W') (hY : ∀ b, Y b → B ≤ b ∧ b < B + 2) : Gro E t w B M f g L A S mp D X W' := by
  obtain ⟨v, hJ, hO, hX⟩ := h
  exact ⟨v, hJ.step hk fun b hb => (hY b hb).1, owns_keep hO hk fun b hb hy => by have := (owns_lt hO b hb).1; have := (hY b hy).2; omega, hX⟩
theorem Gro.put (h : Gro E t w B M f g L A S mp D X W) (o : Obj) : Gro E t w B M f g L A S mp D X (W.putObj (B + 1) o) :=
  h.step (kept_put W (B + 1) o) fun b hb => by rw [hb]; omega
theorem Gro.taken (h : Gro E t w B M f g L A S mp D X W) (o : Obj) : Gro E t w B M f g L A S mp D X (W.putObj B o) :=
  h.step (kept_put W B o) fun b hb => by rw [hb]; omega
theorem Gro.alloc (h : Gro E t w B M f g L A S mp D X W) (o : Obj) : Gro E t w B M f g L A S mp D X (W.alloc o) :=
  h.step ((Kept.refl (fun _ => False) W).alloc o) fun _ h => h.elim
theorem Gro.after {v v2 : Value} {W1 w2 : World} (hJ : CJ w B M (f v) g L A S mp X W) (hO : W.ownsRow (B + 2) t E.k v D.length (E.flat D))
    (hk : Kept (fun _ => False) W W1) (hg : Grow1 W1 w2 v v2) : CJ w B M (f v) g L A S mp X w2 := by
  have hg2 : Kept (fun b => v.ownBlock = some b) W1 w2 := by
    rcases hg with ⟨_, h⟩ | ⟨_, h⟩
    · exact h
    · exact h.mono fun _ _ h => h.elim
  exact hJ.step ((hk.mono fun _ _ h => h.elim).trans hg2 fun _ _ h => h) fun b hb => by have := (owns_lt hO b hb).1; omega
/-- one element more: behind a new block for it (W1), the append (w2), the store -/
theorem Gro.appended {v v2 : Value} {x : α} {W1 w2 : World} (hJ : CJ w B M (f v) g L A S mp X W) (hO : W.ownsRow (B + 2) t E.k v D.length (E.flat D)) (hX : ∀ b, v.ownBlock = some b → ¬ X b) (h2 : B + 1 < W.heap.size)
    (hk : Kept (fun _ => False) W W1) (hg : Grow1 W1 w2 v v2) {n : Nat} (hn : n = D.length + 1) (ho : w2.ownsRow (B + 2) t E.k v2 n (E.flat (D ++ [x]))) (j : Nat) {z : Nat} {T : TypeId} (hj : (f v)[j]? = some (z, T, #[v])) (hnd : ((f v).map (·.1)).Nodup) (hf : f v2 = (f v).set j (z, T, #[v2])) :
    ((∀ x, X x ∨ x = B ∨ x = B + 1 → (w2.setCell ⟨z, 0, none⟩ v2).heap[x]? = W.heap[x]?) ∧ W.heap.size ≤ (w2.setCell ⟨z, 0, none⟩ v2).heap.size) ∧ Gro E t w B M f g L A S mp (D ++ [x]) X (w2.setCell ⟨z, 0, none⟩ v2) := by
  subst hn
  have hzb := hJ.box _ (List.mem_of_getElem? hj)
  have hz1 : w.heap.size ≤ z := hzb.1.1
  have hz2 : z < B := hzb.1.2
  have hsW := hk.size
  have hg2 : Kept (fun b => v.ownBlock = some b) W1 w2 := by
    rcases hg with ⟨_, h⟩ | ⟨_, h⟩
    · exact h
    · exact h.mono fun _ _ h => h.elim
  have hkk : Kept (fun b => v.ownBlock = some b) W w2 := (hk.mono fun _ _ h => h.elim).trans hg2 fun _ _ h => h
  have hJ2 : CJ w B M (f v) g L A S mp X w2 := hJ.step hkk fun b hb => by have := (owns_lt hO b hb).1; omega
  have hJ3 := hJ2.set j v2 hj hnd
  rw [← hf] at hJ3
  have hc := kept_cell w2 z v2
  have hk3 : Kept (fun b => b = z ∨ v.ownBlock = some b) W (w2.setCell ⟨z, 0, none⟩ v2) := (hkk.mono fun _ _ h => .inr h).trans hc fun _ _ h => .inl h
  refine ⟨⟨fun x hx => hk3.block x ?_ ?_, hk3.size⟩, v2, hJ3, ?_, fun b hb hXb => ?_⟩
  · rcases hx with hx | rfl | rfl
    · exact (hJ.far x hx).2
    · omega
    · omega
  · rintro (rfl | hb)
    · rcases hx with hx | hx | hx
      · have := (hJ.far _ hx).1; omega
      · omega
      · omega
    · rcases hx with hx | hx | hx
      · exact hX x hb hx
      · have := (owns_lt hO x hb).1; omega
      · have := (owns_lt hO x hb).1; omega
  · have hl : (D ++ [x]).length = D.length + 1 := by simp
    rw [hl]
    exact owns_keep ho hc fun b hb e => by have := (owns_lt ho b hb).1; omega
  · have hXl := (hJ.far b hXb).2
    rcases hg with ⟨h1, _⟩ | ⟨h1, _⟩
    · rw [h1] at hb; exact hX b hb hXb
    · rw [h1] at hb
      injection hb with hb
      omega
/-- a round has left it so -/
def GroR {α : Type} (E : Enc α) (t : TypeId) (w : World) (B : Nat) (M : Nat → Prop) (f : Value → List Box) (g : Nat) (L : List Nd) (A : ID → Nat) (S : ID → Rw) (mp : Option Nat) (D : List α) (X : Nat → Prop) (W : World) (_ : Act) (W' : World) : Prop :=
  ((∀ x, X x ∨ x = B ∨ x = B + 1 → W'.heap[x]? = W.heap[x]?) ∧ W.heap.size ≤ W'.heap.size) ∧ Gro E t w B M f g L A S mp D X W'
/-- an append as a step of a drawn region in a round -/
theorem step_append_in {F : Fence} {n : Nat} {P : Program} {α : Type} (E : Enc α) {o : Oper} {a : Act} {w : World} {K : Act → World → Prop} {Q : Exit → Act → World → Prop} {R : Result Next} (s y : Operand) (t : TypeId)
    (hop : o.op = Op.call { callee := Callee.builtin Builtin.append, args := #[s, y], argTypes := #[t, t] }) (base : Nat) (e : TypeId) (z : Value) (bytes : Nat) (ht : P.underlying t = some (.slice e))
    (hinfo : (P.info? e).map (fun i => (i.zero, i.size, i.bytes)) = some (some z, E.k, bytes)) (hzs : z.cells.size = E.k) (hb4 : bytes ≤ 4096) {v : Value} {D : List α} {x : α} {ad : Addr} {c : Nat} (hs : a.eval s = v) (hx : a.eval y = .slice (some ad) 1 c)
    (himp : o.uponIn F n P a K Q ((execOp a.eval o).run P w) → o.uponIn F n P a K Q R)
    (hown : w.ownsRow base e E.k v D.length (E.flat D)) (hL : SlAt E w (.slice (some ad) 1 c) [x]) (h63 : D.length ≤ 1000000) (hbase : base ≤ w.heap.size)
    (hK : ∀ v' w', w'.ownsRow base e E.k v' (D.length + 1) (E.flat (D ++ [x])) → Grow1 w w' v v' → K (a.put o.dst v') w') : o.uponIn F n P a K Q R := by
  refine himp ?_
  obtain ⟨v', w', hr, h2, h3⟩ := run_append_keeps (P := P) E t o.type e base z bytes ht hinfo hzs hb4 hown hL h63 hbase
  simp only [hop, execOp, resolve, invoke, builtin, Sem.run_bind, Sem.run_pure, Result.andThen_ok, List.map_toArray, List.map_cons, List.map_nil, hs, hx, hr]
  exact hK v' w' h2 h3
end Go.Proofs.Ytlafodnaifghcaa.Tr
