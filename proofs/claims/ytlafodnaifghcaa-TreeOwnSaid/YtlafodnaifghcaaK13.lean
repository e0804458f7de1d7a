/- An iterator's contract for a range over a function: the iterator may keep cells of its own. The law for a range over a function whose iterator keeps cells of its own: outermost. What a caller of all keeps through its rounds: its boxes, the document. A state turned in memory. -/
import Derived.Test.YtlafodnaifghcaaK12
import Derived.RangeFuncBound
import Derived.Test.YtlafodnaifghcaaK10
namespace Go.Proofs.Ytlafodnaifghcaa.Tr
open Go.RowKit Go.Proofs.Ytlafodnaifghcaa.St Go.Shelf
/-- the iterator gf (with lb captured) hands enc 0 .. enc (N - 1) to yield, while Rd stands; X: the blocks it keeps for itself -/
def IterOk (F : Fence) (n : Nat) (P : Program) (gf : FuncId) (lb : Array Value) (N : Nat) (enc : Nat → Array Value) (Rd : World → Prop) : Prop :=
  ∀ (l : Nat) (I : Nat → (Nat → Prop) → World → Prop) (Z : (Nat → Prop) → World → Prop) (X0 : Nat → Prop) (W : World), (∀ i X w, I i X w → Rd w) →
    (∀ i X w w', I i X w → Kept X w w' → I i (fun b => X b ∨ (w.heap.size ≤ b ∧ b < w'.heap.size)) w') →
    (∀ X w w', Z X w → Kept X w w' → Z (fun b => X b ∨ (w.heap.size ≤ b ∧ b < w'.heap.size)) w') →
    (∀ i X w, i < N → I i X w → YieldAt F (n - 1) P l (enc i) w fun e w' => ∃ b, e = .returned (.bool b) ∧ (∀ x, X x → w'.heap[x]? = w.heap[x]?) ∧ w.heap.size ≤ w'.heap.size ∧ (b = true → I (i + 1) X w') ∧ (b = false → Z X w')) →
    I 0 X0 W → CallsIn F n P gf (#[.func (.yield l) #[] #[]] ++ lb) W fun e w' => (∃ v, e = .returned v) ∧ ((∃ X, I N X w') ∨ ∃ X, Z X w')
/-- the element of a number -/
def nth (L : List Nd) (i : Nat) : Nd := L[i]?.getD default
theorem nth_some {L : List Nd} {i : Nat} {m : Nd} (h : L[i]? = some m) : nth L i = m := by unfold nth; rw [h]; rfl
theorem nth_lt {L : List Nd} {i : Nat} (h : i < L.length) : L[i]? = some (nth L i) := by unfold nth; rw [List.getElem?_eq_getElem h]; rfl
/-- what all hands over -/
def allEnc (L : List Nd) (A : ID → Nat) (i : Nat) : Array Value := #[.pointer (some ⟨A (nth L i).id, 0, none⟩)]
theorem all1_iter {F : Fence} {n : Nat} (h62 : F.fn 62) (hro : F.round = none) (h1 : 1 ≤ n) {L : List Nd} {A : ID → Nat} {S : ID → Rw} {pl g : Nat} (hdoc : Doc L) (hlen : L.length ≤ 900000) :
    IterOk F n Try.prog 62 #[.pointer (some ⟨pl, 0, none⟩)] L.length (allEnc L A) (fun w => w.cell? ⟨pl, 0, none⟩ = some (.pointer (some ⟨g, 0, none⟩)) ∧ Shape w g L A S) :=
  fun l I Z X0 W hrd hgr _ hy h0 => by
    have h := all1_in h62 hro h1 (w := W) (pl := pl) (g := g) (A := A) (S := S) hdoc hlen l I (fun w => ∃ X, Z X w) hrd hgr (fun i X m w hm hI => by
      have h2 := hy i X w (List.getElem?_eq_some_iff.1 hm).1 hI
      unfold allEnc at h2
      rw [nth_some hm] at h2
      exact YieldAt.mono h2 fun e w' ⟨b, k1, k2, k3, k4, k5⟩ => ⟨b, k1, k2, k3, k4, fun hb => ⟨X, k5 hb⟩⟩) h0
    exact h.mono fun e w' ⟨he, hz⟩ => ⟨⟨_, he⟩, hz⟩
end Go.Proofs.Ytlafodnaifghcaa.Tr
namespace Go.Proofs.Ytlafodnaifghcaa.Tr
open Go.RowKit Go.Proofs.Ytlafodnaifghcaa.St Go.Shelf
/-- how a round's body may be left -/
def iterPost (B : Nat) (J : Nat → (Nat → Prop) → World → Prop) (Jx : Code → (Nat → Prop) → World → Prop) (i : Nat) (X : Nat → Prop) (W : World) (e : Exit) (_ : Act) (W' : World) : Prop :=
  (∀ x, X x ∨ x = B ∨ x = B + 1 → W'.heap[x]? = W.heap[x]?) ∧ W.heap.size ≤ W'.heap.size ∧ match e with
  | .normal => J (i + 1) X W'
  | .ret => Jx .ret X W'
  | .exit id => Jx (.exit id) X W'
  | .goto t => Jx (.goto t) X W'
  | .panic _ => False
  | .outgrown => False
theorem wpIn_iter {F : Fence} {n : Nat} {P : Program} {g : Operand} {ps : Array Tmp} {assign body : Code} {Q : Exit → Act → World → Prop} {a : Act} {w : World} (hro : F.round = none) (h1 : 1 ≤ n)
    {gf : Nat} {lb : Array Value} (hg : a.eval g = .func (.func gf) #[] lb) (hFg : F.fn gf) (eg : ∀ args w, (callFunc gf args).run P w = .ok (.enter gf args) w)
    {N : Nat} {enc : Nat → Array Value} {Rd : World → Prop} (hit : IterOk F (n - 1) P gf lb N enc Rd) (hps : ∀ i, i < N → (enc i).size = ps.size)
    (B : Nat) (hB : w.heap.size = B) (J : Nat → (Nat → Prop) → World → Prop) (Jx : Code → (Nat → Prop) → World → Prop) (hrd : ∀ i X W, J i X W → Rd W)
    (hgr : ∀ i X W W', J i X W → Kept X W W' → J i (fun b => X b ∨ (W.heap.size ≤ b ∧ b < W'.heap.size)) W')
    (hgx : ∀ c X W W', Jx c X W → Kept X W W' → Jx c (fun b => X b ∨ (W.heap.size ≤ b ∧ b < W'.heap.size)) W')
    (hob : ∀ i X W o', J i X W → J i X (W.putObj (B + 1) o')) (hox : ∀ c X W o', Jx c X W → Jx c X (W.putObj (B + 1) o'))
    (h0 : ∀ o1 o2, J 0 (fun _ => False) ((w.alloc o1).alloc o2))
    (hround : ∀ (i : Nat) (W : World) (K : Act → World → Prop), i < N → (∀ a1, (∀ X W2, B + 1 < W2.heap.size → J i X W2 → body.wpIn (F.inRound (B + 1)) (n - 1 - 1) P (iterPost B J Jx i X W2) a1 W2) → K a1 W) → assign.wpIn (F.inRound (B + 1)) (n - 1 - 1) P (Exit.then K (fun _ _ _ => False)) { tmps := (ps.zip (enc i)).foldl (fun t (p, v) => t.setIfInBounds p v) a.tmps, defers := [] } W)
    (hdone : ∀ (X : Nat → Prop) (W : World), J N X W → W.heap[B]? = some (.deferred (some [])) → Q .normal { a with defers := { target := .collected B, args := #[] } :: a.defers } W)
    (hstop : ∀ (c : Code) (X : Nat → Prop) (W : World), Jx c X W → W.heap[B]? = some (.deferred (some [])) → c.wpIn F n P Q { a with defers := { target := .collected B, args := #[] } :: a.defers } W) :
    (Code.rangeFunc g ps assign body).wpIn F n P Q a w := by
  subst hB
  refine wpIn_rangeFunc ?_
  intro fn hfn
  rw [hro]
  obtain ⟨rec, hrec⟩ : ∃ rec : LoopState → Option Code → Loop, rec = fun st pe => { state := st, pending := pe, fn, tmps := a.tmps, params := ps, assign, body, defers := w.heap.size } := ⟨_, rfl⟩
  obtain ⟨W1, hW1⟩ : ∃ W1, (w.alloc (.deferred (some []))).alloc (.loop (rec .ready none)) = W1 := ⟨_, rfl⟩
  have hL1 : W1.heap[w.heap.size + 1]? = some (.loop (rec .ready none)) := by
    rw [← hW1]; have := World.alloc_heap_new (w.alloc (.deferred (some []))) (.loop (rec .ready none)); rwa [World.size_alloc] at this
  have hD1 : W1.heap[w.heap.size]? = some (.deferred (some [])) := by
    rw [← hW1]; exact (Below.heap_alloc _ _ _ (by simp)).trans (World.alloc_heap_new w _)
  have hJ1 : J 0 (fun _ => False) W1 := by rw [← hW1]; exact h0 _ _
  refine ⟨w.heap.size + 1, [{ target := .collected w.heap.size, args := #[] }], W1, { target := .fn (.func gf) lb, args := #[.func (.yield (w.heap.size + 1)) #[] #[]] }, W1, gf, #[.func (.yield (w.heap.size + 1)) #[] #[]] ++ lb, W1, ?_, ?_, ?_, ?_, fun _ => h1, ?_⟩
  · rw [← hW1, hrec]; exact run_enterLoop_outer _ _ _ _ _
  · simp only [resolve, hg]
    simp [go_sem]
  · intro f' hf'; simp [Target.leads] at hf'; subst hf'; exact hFg
  · simp [invoke, go_sem, eg]
  refine (hit (w.heap.size + 1)
    (fun i X W => J i X W ∧ ¬ X (w.heap.size + 1) ∧ ¬ X w.heap.size ∧ W.heap[w.heap.size + 1]? = some (.loop (rec .ready none)) ∧ W.heap[w.heap.size]? = some (.deferred (some [])))
    (fun X W => ∃ c, Jx c X W ∧ ¬ X (w.heap.size + 1) ∧ ¬ X w.heap.size ∧ W.heap[w.heap.size + 1]? = some (.loop (rec .done (some c))) ∧ W.heap[w.heap.size]? = some (.deferred (some [])))
    (fun _ => False) W1 (fun i X W h => hrd i X W h.1) ?_ ?_ ?_ ⟨hJ1, fun h => h, fun h => h, hL1, hD1⟩).mono ?_
  · rintro i X W W' ⟨hj, x1, x2, hl, hd⟩ hk
    have l1 := (Array.getElem?_eq_some_iff.1 hl).1
    have l2 := (Array.getElem?_eq_some_iff.1 hd).1
    exact ⟨hgr i X W W' hj hk, fun h => by rcases h with h | h; exact x1 h; omega, fun h => by rcases h with h | h; exact x2 h; omega, (hk.block _ l1 x1).trans hl, (hk.block _ l2 x2).trans hd⟩
  · rintro X W W' ⟨c, hj, x1, x2, hl, hd⟩ hk
    have l1 := (Array.getElem?_eq_some_iff.1 hl).1
    have l2 := (Array.getElem?_eq_some_iff.1 hd).1
    exact ⟨c, hgx c X W W' hj hk, fun h => by rcases h with h | h; exact x1 h; omega, fun h => by rcases h with h | h; exact x2 h; omega, (hk.block _ l1 x1).trans hl, (hk.block _ l2 x2).trans hd⟩
  · rintro i X W hi ⟨hj, x1, x2, hl, hd⟩
    have hlt := (Array.getElem?_eq_some_iff.1 hl).1
    have hy := run_yield (P := P) (args := enc i) hl (by rw [hrec]; exact (hps i hi).symm ▸ rfl)
    rw [hrec] at hy
    refine ⟨fn, _, assign, body, hy, roundIn_of_wpIn hfn (hround i W _ hi fun a1 h9 => ?_)⟩
    · refine ⟨_, run_beginRound hl (by rw [hrec]), ?_⟩
      obtain ⟨busy, hbz⟩ : ∃ b : Loop, b = { rec .ready none with state := .busy } := ⟨_, rfl⟩
      rw [← hbz]
      have hl2 : (W.putObj (w.heap.size + 1) (.loop busy)).heap[w.heap.size + 1]? = some (.loop busy) := World.putObj_heap_same hlt
      have hd2 : (W.putObj (w.heap.size + 1) (.loop busy)).heap[w.heap.size]? = some (.deferred (some [])) := (World.putObj_heap_other (by omega)).trans hd
      refine wpIn_mono (h9 X _ (by simpa using hlt) (hob _ _ _ _ hj)) ?_
      have fin : ∀ (jump : Option Code) (W3 : World), (∀ x, X x ∨ x = w.heap.size ∨ x = w.heap.size + 1 → W3.heap[x]? = (W.putObj (w.heap.size + 1) (.loop busy)).heap[x]?) →
          (Instr.endRound (w.heap.size + 1) jump).run P W3 = .ok (.bool jump.isNone) (W3.putObj (w.heap.size + 1) (.loop (rec (if jump.isNone then .ready else .done) jump))) ∧ W3.heap[w.heap.size + 1]? = some (.loop busy) ∧
          (W3.putObj (w.heap.size + 1) (.loop (rec (if jump.isNone then .ready else .done) jump))).heap[w.heap.size + 1]? = some (.loop (rec (if jump.isNone then .ready else .done) jump)) ∧
          (W3.putObj (w.heap.size + 1) (.loop (rec (if jump.isNone then .ready else .done) jump))).heap[w.heap.size]? = some (.deferred (some [])) ∧
          (∀ x, X x → (W3.putObj (w.heap.size + 1) (.loop (rec (if jump.isNone then .ready else .done) jump))).heap[x]? = W.heap[x]?) := fun jump W3 hk3 => by
        have hl3 := (hk3 _ (.inr (.inr rfl))).trans hl2
        have h9 := run_endRound (P := P) jump hl3
        rw [hbz, hrec] at h9
        rw [hrec]
        refine ⟨h9, hl3, World.putObj_heap_same (Array.getElem?_eq_some_iff.1 hl3).1, (World.putObj_heap_other (by omega)).trans ((hk3 _ (.inr (.inl rfl))).trans hd2), fun x hx => ?_⟩
        have hne : x ≠ w.heap.size + 1 := fun e => x1 (e ▸ hx)
        exact (World.putObj_heap_other hne).trans ((hk3 x (.inl hx)).trans (World.putObj_heap_other hne))
      rintro e a3 W3 ⟨hkx, hs, hp⟩
      have hs3 : W.heap.size ≤ W3.heap.size := by simpa using hs
      cases e with
      | normal =>
        obtain ⟨hr, hl3, hl4, hd4, hx4⟩ := fin none W3 hkx
        exact ⟨_, _, hr, true, rfl, hx4, by simpa using hs3, fun _ => ⟨hob _ _ _ _ hp, x1, x2, hl4, hd4⟩, fun h => by cases h⟩
      | ret =>
        obtain ⟨hr, hl3, hl4, hd4, hx4⟩ := fin (some .ret) W3 hkx
        exact ⟨_, _, hr, false, rfl, hx4, by simpa using hs3, (fun h => by cases h), fun _ => ⟨.ret, hox _ _ _ _ hp, x1, x2, hl4, hd4⟩⟩
      | exit id =>
        obtain ⟨hr, hl3, hl4, hd4, hx4⟩ := fin (some (.exit id)) W3 hkx
        exact ⟨_, _, hr, false, rfl, hx4, by simpa using hs3, (fun h => by cases h), fun _ => ⟨(.exit id), hox _ _ _ _ hp, x1, x2, hl4, hd4⟩⟩
      | goto t =>
        obtain ⟨hr, hl3, hl4, hd4, hx4⟩ := fin (some (.goto t)) W3 hkx
        exact ⟨_, _, hr, false, rfl, hx4, by simpa using hs3, (fun h => by cases h), fun _ => ⟨(.goto t), hox _ _ _ _ hp, x1, x2, hl4, hd4⟩⟩
      | panic _ => exact hp.elim
      | outgrown => exact hp.elim
  · rintro e W3 ⟨⟨v, rfl⟩, h⟩
    rcases h with ⟨X, hj, _, _, hl, hd⟩ | ⟨X, c, hj, _, _, hl, hd⟩
    · have h9 := run_endLoop (P := P) hl (by rw [hrec]; simp)
      refine ⟨_, _, h9, ?_⟩
      rw [hrec]
      exact hdone X _ (hob _ _ _ _ hj) ((World.putObj_heap_other (by omega)).trans hd)
    · have h9 := run_endLoop (P := P) hl (by rw [hrec]; simp)
      refine ⟨_, _, h9, ?_⟩
      rw [hrec]
      exact hstop c X _ (hox _ _ _ _ hj) ((World.putObj_heap_other (by omega)).trans hd)
/-- what turns cells alone keeps the others -/
theorem kept_others {X : Nat → Prop} {W W' : World} (hk : Kept X W W') (hx : ∀ b o, X b → W.heap[b]? = some o → o.isCells = true) : KeepsOthers W W' :=
  ⟨hk.size, fun k o hko ho => by
    by_cases h : X k
    · rw [hx k o h hko] at ho; cases ho
    · exact (hk.block k (Array.getElem?_eq_some_iff.1 hko).1 h).trans hko⟩
end Go.Proofs.Ytlafodnaifghcaa.Tr
namespace Go.Proofs.Ytlafodnaifghcaa.Tr
open Go.RowKit Go.Proofs.Ytlafodnaifghcaa.St Go.Shelf
abbrev Box := Nat × TypeId × Array Value
/-- a caller's boxes bs, laid since w, and the document, that lay at w; the iterator's own blocks X from B on; M: what may have been turned -/
structure CJ (w : World) (B : Nat) (M : Nat → Prop) (bs : List Box) (g : Nat) (L : List Nd) (A : ID → Nat) (S : ID → Rw) (mp : Option Nat) (X : Nat → Prop) (W : World) : Prop where
  box : ∀ x ∈ bs, (w.heap.size ≤ x.1 ∧ x.1 < B) ∧ Blk W x.1 x.2.1 x.2.2
  tree : TAt W g L A S mp
  low : ∀ b, foot g L A S mp b → b < w.heap.size
  far : ∀ b, X b → B ≤ b ∧ b < W.heap.size
  size : w.heap.size ≤ B ∧ B ≤ W.heap.size
  kept : Kept M w W
variable {w W W' : World} {B : Nat} {M : Nat → Prop} {bs : List Box} {g : Nat} {L : List Nd} {A : ID → Nat} {S : ID → Rw} {mp : Option Nat} {X : Nat → Prop}
theorem CJ.start (h : TAt w g L A S mp) : CJ w w.heap.size M [] g L A S mp (fun _ => False) w :=
  { box := fun x hx => by simp at hx
    tree := h
    low := h.lt
    far := fun _ h => h.elim
    size := ⟨Nat.le_refl _, Nat.le_refl _⟩
    kept := Kept.refl _ _ }
theorem CJ.boxed (h : CJ w W.heap.size M bs g L A S mp (fun _ => False) W) (vs : Array Value) (T : TypeId) : CJ w (W.alloc (.cells vs T)).heap.size M (bs ++ [(W.heap.size, T, vs)]) g L A S mp (fun _ => False) (W.alloc (.cells vs T)) :=
  { box := fun x hx => by
      have hs : (W.alloc (.cells vs T)).heap.size = W.heap.size + 1 := World.size_alloc _ _
      rcases List.mem_append.1 hx with hx | hx
      · exact ⟨⟨(h.box x hx).1.1, by have := (h.box x hx).1.2; omega⟩, (h.box x hx).2.alloc _⟩
      · rw [List.mem_singleton.1 hx]
        exact ⟨⟨h.size.1, by show W.heap.size < _; omega⟩, Blk.new _ _ _⟩
    tree := h.tree.keep ((Kept.refl (fun _ => False) W).alloc _) fun _ _ h => h
    low := h.low
    far := fun _ h => h.elim
    size := ⟨by have := h.size.1; simp; omega, Nat.le_refl _⟩
    kept := h.kept.alloc _ }
theorem CJ.drew (h : CJ w B M bs g L A S mp X W) : CJ w B M bs g L A S mp X W.drew := by
  have hk : Kept (fun _ => False) W W.drew := (Kept.refl _ _).drew
  exact { box := fun x hx => ⟨(h.box x hx).1, hk.blk (fun h => h) (h.box x hx).2⟩
          tree := h.tree.still hk
          low := h.low
          far := h.far
          size := h.size
          kept := h.kept.drew }
theorem CJ.drewN (h : CJ w B M bs g L A S mp X W) : ∀ k, CJ w B M bs g L A S mp X (W.drewN k) := by
  intro k
  have hk : Kept (fun _ => False) W (W.drewN k) := (Kept.refl _ _).drewN k
  exact { box := fun x hx => ⟨(h.box x hx).1, hk.blk (fun h => h) (h.box x hx).2⟩
          tree := h.tree.still hk
          low := h.low
          far := h.far
          size := h.size
          kept := h.kept.trans hk fun _ _ h => h.elim }
theorem CJ.step {Y : Nat → Prop} (h : CJ w B M bs g L A S mp X W) (hk : Kept Y W W') (hY : ∀ b, Y b → B ≤ b) : CJ w B M bs g L A S mp X W' where
  box := fun x hx => ⟨(h.box x hx).1, hk.blk (fun hy => by have := hY _ hy; have := (h.box x hx).1; omega) (h.box x hx).2⟩
  tree := h.tree.keep hk fun b hb hy => by have := hY _ hy; have := h.low b hb; have := h.size.1; omega
  low := h.low
  far := fun b hb => ⟨(h.far b hb).1, Nat.lt_of_lt_of_le (h.far b hb).2 hk.size⟩
  size := ⟨h.size.1, Nat.le_trans h.size.2 hk.size⟩
  kept := h.kept.trans hk fun b hb hy => by have := hY _ hy; have := h.size.1; omega
theorem CJ.grow (h : CJ w B M bs g L A S mp X W) (hk : Kept X W W') : CJ w B M bs g L A S mp (fun b => X b ∨ (W.heap.size ≤ b ∧ b < W'.heap.size)) W' :=
  { h.step hk fun b hb => (h.far b hb).1 with far := fun b hb => hb.elim (fun h1 => ⟨(h.far b h1).1, Nat.lt_of_lt_of_le (h.far b h1).2 hk.size⟩) fun h2 => ⟨Nat.le_trans h.size.2 h2.1, h2.2⟩ }
theorem CJ.alloc (h : CJ w B M bs g L A S mp X W) (o : Obj) : CJ w B M bs g L A S mp X (W.alloc o) :=
  h.step (Y := fun _ => False) ((Kept.refl _ _).alloc o) fun _ h => h.elim
theorem kept_put (W : World) (l : Nat) (o : Obj) : Kept (· = l) W (W.putObj l o) := kept_obj W l o
theorem CJ.put (h : CJ w B M bs g L A S mp X W) {l : Nat} (hl : B ≤ l) (o : Obj) : CJ w B M bs g L A S mp X (W.putObj l o) :=
  h.step (kept_put W l o) fun b hb => by rw [hb]; exact hl
theorem CJ.at_ (h : CJ w B M bs g L A S mp X W) (j : Nat) {z : Nat} {T : TypeId} {us : Array Value} (hj : bs[j]? = some (z, T, us)) : Blk W z T us := (h.box _ (List.mem_of_getElem? hj)).2
theorem CJ.cell (h : CJ w B M bs g L A S mp X W) (j : Nat) {z : Nat} {T : TypeId} {us : Array Value} (hj : bs[j]? = some (z, T, us)) (i : Nat) {u : Value} (hu : us[i]? = some u) : W.cell? ⟨z, i, none⟩ = some u := (h.at_ j hj).cell' hu
theorem CJ.frozen (h : CJ w B M bs g L A S mp X W) (j : Nat) {z : Nat} {T : TypeId} {us : Array Value} (hj : bs[j]? = some (z, T, us)) (i : Nat) : W.frozen? ⟨z, i, none⟩ = false := (h.at_ j hj).frozen i
/-- one cell of a box written over -/
theorem CJ.seti (h : CJ w B M bs g L A S mp X W) (j : Nat) {z : Nat} {T : TypeId} {us : Array Value} (o : Nat) (v : Value) (hj : bs[j]? = some (z, T, us)) (hnd : (bs.map (·.1)).Nodup) : CJ w B M (bs.set j (z, T, us.setIfInBounds o v)) g L A S mp X (W.setCell ⟨z, o, none⟩ v) := by
  have hjl := (List.getElem?_eq_some_iff.1 hj).1
  have hzb := h.box _ (List.mem_of_getElem? hj)
  have hk : Kept (· = z) W (W.setCell ⟨z, o, none⟩ v) := (Kept.refl (· = z) W).setCell (p := ⟨z, o, none⟩) (fun _ => rfl) v
  refine { box := fun x hx => ?_, tree := h.tree.keep hk fun b hb e => ?_, low := h.low, far := fun b hb => ⟨(h.far b hb).1, by rw [World.size_setCell]; exact (h.far b hb).2⟩, size := ⟨h.size.1, by rw [World.size_setCell]; exact h.size.2⟩, kept := h.kept.trans hk fun b hb e => ?_ }
  · obtain ⟨i, hi, hx⟩ := List.mem_iff_getElem.1 hx
    by_cases e : j = i
    · subst e
      rw [List.getElem_set_self] at hx
      subst hx
      exact ⟨hzb.1, by have h9 := Blk.set_ (g := z) (t := T) (cs := us) hzb.2 o v; exact h9⟩
    · rw [List.getElem_set_ne e] at hx
      have hx2 : x ∈ bs := by rw [← hx]; exact List.getElem_mem _
      refine ⟨(h.box x hx2).1, hk.blk (fun hz => e ?_) (h.box x hx2).2⟩
      rw [List.length_set] at hi
      have h2 : (bs.map (·.1))[j]'(by simpa using hjl) = (bs.map (·.1))[i]'(by simpa using hi) := by
        rw [List.getElem_map, List.getElem_map, hx, hz, (List.getElem?_eq_some_iff.1 hj).2]
      rcases Nat.lt_or_gt_of_ne e with hlt | hlt
      · exact absurd h2 ((List.pairwise_iff_getElem.1 hnd) j i _ _ hlt)
      · exact absurd h2.symm ((List.pairwise_iff_getElem.1 hnd) i j _ _ hlt)
  · have := h.low b hb; have := hzb.1.1; omega
  · have := hzb.1.1; omega
/-- a box of one cell written over -/
theorem CJ.set (h : CJ w B M bs g L A S mp X W) (j : Nat) {z : Nat} {T : TypeId} {u : Value} (v : Value) (hj : bs[j]? = some (z, T, #[u])) (hnd : (bs.map (·.1)).Nodup) : CJ w B M (bs.set j (z, T, #[v])) g L A S mp X (W.setCell ⟨z, 0, none⟩ v) :=
  h.seti j 0 v hj hnd
theorem region_cut {F : Fence} {n : Nat} {P : Program} {c : Code} {Q : Exit → Act → World → Prop} {a : Act} {W : World} (R : World → Prop) (h : ∃ A, c.wpIn F n P (fun e a' W' => e = .normal ∧ a' = A ∧ R W') a W ∧ ∀ W', R W' → Q .normal A W') : c.wpIn F n P Q a W := by
  obtain ⟨A, h1, h2⟩ := h
  exact wpIn_mono h1 fun e a' W' ⟨h3, h4, h5⟩ => by subst h3 h4; exact h2 W' h5
theorem region_any {F : Fence} {n : Nat} {P : Program} {c : Code} {Q : Exit → Act → World → Prop} {a : Act} {W : World} (R : Act → World → Prop) (h : c.wpIn F n P (fun e a' W' => e = .normal ∧ R a' W') a W) (h2 : ∀ a' W', R a' W' → Q .normal a' W') : c.wpIn F n P Q a W :=
  wpIn_mono h fun e a' W' ⟨h3, h5⟩ => by subst h3; exact h2 a' W' h5
theorem kept_cell (W : World) (z : Nat) (v : Value) : Kept (· = z) W (W.setCell ⟨z, 0, none⟩ v) := (Kept.refl (· = z) W).setCell (p := ⟨z, 0, none⟩) (fun _ => rfl) v
/-- the rounds' post, where the caller's boxes and the document alone were turned -/
theorem CJ.off {Y : Nat → Prop} (h : CJ w B M bs g L A S mp X W) (h2 : B + 1 < W.heap.size) (hk : Kept Y W W') (hY : ∀ b, Y b → b < B) : (∀ x, X x ∨ x = B ∨ x = B + 1 → W'.heap[x]? = W.heap[x]?) ∧ W.heap.size ≤ W'.heap.size :=
  ⟨fun x hx => hk.block x (by rcases hx with hx | rfl | rfl; exact (h.far x hx).2; omega; omega) fun hy => by
    have := hY x hy
    rcases hx with hx | rfl | rfl
    · have := (h.far x hx).1; omega
    · omega
    · omega, hk.size⟩
theorem ret_range {F : Fence} {n : Nat} {P : Program} {fn : Func} {R : Ending → World → Prop} {tmps : Array Value} {v : Value} (hK : W.heap[B]? = some (.deferred (some []))) (hr : (results fn tmps).run P (W.putObj B (.deferred none)) = .ok v (W.putObj B (.deferred none)))
    (h : R (.returned v) (W.putObj B (.deferred none))) : LeavesInM F n P fn tmps R [{ target := .collected B, args := #[] }] .returning W :=
  ⟨by simp, .inl ⟨_, _, rfl, run_takeDeferred hK, v, hr, h⟩⟩
/-- at the return: the block for deferred calls is taken up -/
theorem CJ.taken (h : CJ w B M bs g L A S mp X W) (o : Obj) : CJ w B M bs g L A S mp X (W.putObj B o) := h.put (Nat.le_refl _) o
end Go.Proofs.Ytlafodnaifghcaa.Tr
namespace Go.Proofs.Ytlafodnaifghcaa.Tr
open Go.RowKit Go.Proofs.Ytlafodnaifghcaa.St Go.Shelf
abbrev key (n : Nd) : ID × ID := (n.id, n.ref)
theorem key_ids {L L' : List Nd} (h : L'.map key = L.map key) : ids L' = ids L := by
  have := congrArg (List.map Prod.fst) h
  rw [List.map_map, List.map_map] at this
  exact this
theorem key_kids {L L' : List Nd} (h : L'.map key = L.map key) (r : ID) (A : ID → Nat) : (kids L' r).map (fun n => A n.id) = (kids L r).map (fun n => A n.id) := by
  have e : ∀ M : List Nd, (kids M r).map (fun n => A n.id) = ((M.map key).filter (fun p => decide (p.2 = r))).map (fun p => A p.1) := fun M => by
    rw [List.filter_map, List.map_map]; rfl
  rw [e, e, h]
theorem key_foot {L L' : List Nd} (h : L'.map key = L.map key) {g : Nat} {A : ID → Nat} {S : ID → Rw} {mp : Option Nat} {b : Nat} : foot g L' A S mp b ↔ foot g L A S mp b := by
  unfold foot Ref; rw [key_ids h]
theorem Shape.key {w : World} {g : Nat} {L L' : List Nd} {A : ID → Nat} {S : ID → Rw} (hs : Shape w g L A S) (h : L'.map key = L.map key) : Shape w g L' A S where
  root := hs.root
  beh := fun n hn => by
    have h1 : n.id ∈ ids L := by rw [← key_ids h]; exact List.mem_map.2 ⟨n, hn, rfl⟩
    obtain ⟨m, hm, e⟩ := List.mem_map.1 h1
    have := hs.beh m hm
    rwa [e] at this
  row := fun r hr => by
    rw [key_ids h] at hr
    rw [key_kids h]
    exact hs.row r hr
theorem RowAt.ne {w : World} {s : Rw} {D : List Nat} (h : RowAt w s D) {g : Nat} {cs : Array Value} {t : TypeId} (hb : Blk w g t cs) (ht : t ≠ 75) : ∀ b, s.blk = some b → ¬ b = g := by
  rintro b hs rfl
  rcases h with ⟨rfl, _⟩ | ⟨b', cap, rfl, cs', h1, _⟩
  · cases hs
  · cases hs
    exact Blk.ne_ hb h1 ht rfl
/-- one element's state written over -/
theorem TAt.state {w : World} {g : Nat} {P Q : List Nd} {m : Nd} {A : ID → Nat} {S : ID → Rw} {mp : Option Nat} (h : TAt w g (P ++ m :: Q) A S mp) (hnd : (ids (P ++ m :: Q)).Nodup) (st : Int) :
    TAt (w.setCell ⟨A m.id, 5, none⟩ (.int .i64 st)) g (P ++ { m with st := st } :: Q) A S mp := by
  have hk : Kept (· = A m.id) w (w.setCell ⟨A m.id, 5, none⟩ (.int .i64 st)) := (Kept.refl (· = A m.id) w).setCell (p := ⟨A m.id, 5, none⟩) (fun _ => rfl) _
  have hm : m ∈ P ++ m :: Q := by simp
  have hmi : m.id ∈ ids (P ++ m :: Q) := List.mem_map.2 ⟨m, hm, rfl⟩
  have he := h.elt m hm
  have hkey : (P ++ { m with st := st } :: Q).map key = (P ++ m :: Q).map key := by simp [key]
  have hids := key_ids hkey
  have hne : ∀ n ∈ P ++ Q, n.id ≠ m.id := fun n hn e => by
    rw [ids_append] at hnd
    obtain ⟨n1, n2, n3⟩ := List.nodup_append.1 hnd
    rcases List.mem_append.1 hn with hn | hn
    · exact n3 _ (List.mem_map.2 ⟨n, hn, rfl⟩) m.id List.mem_cons_self e
    · exact (List.nodup_cons.1 n2).1 (List.mem_map.2 ⟨n, hn, e⟩)
  refine { top := hk.blk (fun e => ?_) h.top, elt := fun n hn => ?_, row := fun r hr => ?_, by_ := ?_, one := by rw [hids]; exact h.one, far := fun x y hx hy => ?_ }
  · exact Blk.ne_ h.top he (by decide) e
  · have hn2 : n = { m with st := st } ∨ n ∈ P ++ Q := by
      rcases List.mem_append.1 hn with hn | hn
      · exact .inr (List.mem_append_left _ hn)
      · rcases List.mem_cons.1 hn with hn | hn
        · exact .inl hn
        · exact .inr (List.mem_append_right _ hn)
    rcases hn2 with rfl | hn2
    · exact he.set_ 5 (.int .i64 st)
    · have hn3 : n ∈ P ++ m :: Q := by rcases List.mem_append.1 hn2 with h1 | h1; exact List.mem_append_left _ h1; exact List.mem_append_right _ (List.mem_cons_of_mem _ h1)
      exact hk.blk (fun e => hne n hn2 (h.one _ (List.mem_map.2 ⟨n, hn3, rfl⟩) _ hmi e)) (h.elt n hn3)
  · have hr2 : Ref (P ++ m :: Q) r := by unfold Ref at hr ⊢; rwa [hids] at hr
    rw [key_kids hkey]
    exact (h.row r hr2).keep hk ((h.row r hr2).ne he (by decide))
  · rcases h.by_ with ⟨h1, h2⟩ | ⟨b, kvs, h1, h2, h3, h4, h5⟩
    · simp at h2
    · refine .inr ⟨b, kvs, h1, h2.keep hk fun e => h2.ne_blk he e.symm, h3, by rw [h4]; simp, fun x => by rw [h5 x, hids]⟩
  · unfold Ref at hx hy
    rw [hids] at hx hy
    exact h.far x y hx hy
variable {w W W' : World} {B : Nat} {M : Nat → Prop} {bs : List Box} {g : Nat} {L : List Nd} {A : ID → Nat} {S : ID → Rw} {mp : Option Nat} {X : Nat → Prop}
theorem CJ.state {P Q : List Nd} {m : Nd} (h : CJ w B M bs g (P ++ m :: Q) A S mp X W) (hnd : (ids (P ++ m :: Q)).Nodup) (hM : M (A m.id)) (st : Int) : CJ w B M bs g (P ++ { m with st := st } :: Q) A S mp X (W.setCell ⟨A m.id, 5, none⟩ (.int .i64 st)) := by
  have hk : Kept (· = A m.id) W (W.setCell ⟨A m.id, 5, none⟩ (.int .i64 st)) := (Kept.refl (· = A m.id) W).setCell (p := ⟨A m.id, 5, none⟩) (fun _ => rfl) _
  have hl : A m.id < w.heap.size := h.low _ (.inr (.inr (.inl ⟨m.id, List.mem_map.2 ⟨m, by simp, rfl⟩, rfl⟩)))
  have hkey : (P ++ { m with st := st } :: Q).map key = (P ++ m :: Q).map key := by simp [key]
  exact { box := fun x hx => ⟨(h.box x hx).1, hk.blk (fun e => by have := (h.box x hx).1.1; have e : x.1 = A m.id := e; omega) (h.box x hx).2⟩
          tree := h.tree.state hnd st
          low := fun b hb => h.low b ((key_foot hkey).1 hb)
          far := fun b hb => ⟨(h.far b hb).1, by rw [World.size_setCell]; exact (h.far b hb).2⟩
          size := ⟨h.size.1, by rw [World.size_setCell]; exact h.size.2⟩
          kept := h.kept.trans hk fun b _ e => by rw [e]; exact hM }
theorem CJ.grew (h : CJ w B M bs g L A S mp X W) (hg : Kept (fun _ => False) W W') : CJ w B M bs g L A S mp X W' := h.step hg fun _ h => h.elim
end Go.Proofs.Ytlafodnaifghcaa.Tr
