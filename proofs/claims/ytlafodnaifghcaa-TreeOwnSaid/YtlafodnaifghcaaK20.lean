/- A row that grows through the rounds. Nodes, by a range over all. -/
import Derived.Test.YtlafodnaifghcaaK13
import Derived.Test.YtlafodnaifghcaaK6
import Derived.Stop.RegionWithIn
namespace Go.Proofs.Ytlafodnaifghcaa.Tr
open Go.RowKit Go.Proofs.Ytlafodnaifghcaa.St Go.Shelf
attribute [local go_sem] Oper.semAt_some
/-- a row that grows: what a box holds -/
def Gro {α : Type} (E : Enc α) (t : TypeId) (w : World) (B : Nat) (M : Nat → Prop) (f : Value → List Box) (g : Nat) (L : List Nd) (A : ID → Nat) (S : ID → Rw) (mp : Option Nat) (D : List α) (X : Nat → Prop) (W : World) : Prop :=
  ∃ v, CJ w B M (f v) g L A S mp X W ∧ W.ownsRow (B + 2) t E.k v D.length (E.flat D) ∧ ∀ b, v.ownBlock = some b → ¬ X b
variable {α : Type} {E : Enc α} {t : TypeId} {w W W' : World} {B : Nat} {M : Nat → Prop} {f : Value → List Box} {g : Nat} {L : List Nd} {A : ID → Nat} {S : ID → Rw} {mp : Option Nat} {D : List α} {X : Nat → Prop}
theorem owns_lt {w : World} {base n size : Nat} {e : TypeId} {v : Value} {xs : List Value} (h : w.ownsRow base e size v n xs) : ∀ b, v.ownBlock = some b → base ≤ b ∧ b < w.heap.size := fun b hb => by
  rcases h.2 with ⟨rfl, _⟩ | ⟨g, cap, cur, rfl, hbg, hg, _⟩
  · cases hb
  · cases hb; exact ⟨hbg, Blk.lt (t := e) (cs := cur) hg⟩
theorem Gro.grow (h : Gro E t w B M f g L A S mp D X W) (hk : Kept X W W') : Gro E t w B M f g L A S mp D (fun b => X b ∨ (W.heap.size ≤ b ∧ b < W'.heap.size)) W' := by
  obtain ⟨v, hJ, hO, hX⟩ := h
  refine ⟨v, hJ.grow hk, owns_keep hO hk hX, fun b hb => ?_⟩
  have := (owns_lt hO b hb).2
  rintro (h1 | h1)
  · exact hX b hb h1
  · omega
theorem Gro.step {Y : Nat → Prop} (h : Gro E t w B M f g L A S mp D X W) (hk : Kept Y W W') (hY : ∀ b, Y b → B ≤ b ∧ b < B + 2) : Gro E t w B M f g L A S mp D X W' := by
  obtain ⟨v, hJ, hO, hX⟩ := h
  exact ⟨v, hJ.step hk fun b hb => (hY b hb).1, owns_keep hO hk fun b hb hy => by have := (owns_lt hO b hb).1; have := (hY b hy).2; omega, hX⟩
theorem Gro.put (h : Gro E t w B M f g L A S mp D X W) (o : Obj) : Gro E t w B M f g L A S mp D X (W.putObj (B + 1) o) :=
  h.step (kept_put W (B + 1) o) fun b hb => by rw [hb]; omega
theorem Gro.taken (h : Gro E t w B M f g L A S mp D X W) (o : Obj) : Gro E t w B M f g L A S mp D X (W.putObj B o) :=
  h.step (kept_put W B o) fun b hb => by rw [hb]; omega
theorem Gro.alloc (h : Gro E t w B M f g L A S mp D X W) (o : Obj) : Gro E t w B M f g L A S mp D X (W.alloc o) :=
  h.step ((Kept.refl (fun _ => False) W).alloc o) fun _ h => h.elim
theorem Gro.after {v v2 : Value} {W1 w2 : World} (hJ : CJ w B M (f v) g L A S mp X W) (hO : W.ownsRow (B + 2) t E.k v D.length (E.flat D))
    (hk : Kept (fun _ => False) W W1) (hg : Grow1 W1 w2 v v2) : CJ w B M (f v) g L A S mp X w2 := by
  have hg2 : Kept (fun b => v.ownBlock = some b) W1 w2 := by
    rcases hg with ⟨_, h⟩ | ⟨_, h⟩
    · exact h
    · exact h.mono fun _ _ h => h.elim
  exact hJ.step ((hk.mono fun _ _ h => h.elim).trans hg2 fun _ _ h => h) fun b hb => by have := (owns_lt hO b hb).1; omega
/-- one element more: behind a new block for it (W1), the append (w2), the store -/
theorem Gro.appended {v v2 : Value} {x : α} {W1 w2 : World} (hJ : CJ w B M (f v) g L A S mp X W) (hO : W.ownsRow (B + 2) t E.k v D.length (E.flat D)) (hX : ∀ b, v.ownBlock = some b → ¬ X b) (h2 : B + 1 < W.heap.size)
    (hk : Kept (fun _ => False) W W1) (hg : Grow1 W1 w2 v v2) {n : Nat} (hn : n = D.length + 1) (ho : w2.ownsRow (B + 2) t E.k v2 n (E.flat (D ++ [x]))) (j : Nat) {z : Nat} {T : TypeId} (hj : (f v)[j]? = some (z, T, #[v])) (hnd : ((f v).map (·.1)).Nodup) (hf : f v2 = (f v).set j (z, T, #[v2])) :
    ((∀ x, X x ∨ x = B ∨ x = B + 1 → (w2.setCell ⟨z, 0, none⟩ v2).heap[x]? = W.heap[x]?) ∧ W.heap.size ≤ (w2.setCell ⟨z, 0, none⟩ v2).heap.size) ∧ Gro E t w B M f g L A S mp (D ++ [x]) X (w2.setCell ⟨z, 0, none⟩ v2) := by
  subst hn
  have hzb := hJ.box _ (List.mem_of_getElem? hj)
  have hz1 : w.heap.size ≤ z := hzb.1.1
  have hz2 : z < B := hzb.1.2
  have hsW := hk.size
  have hg2 : Kept (fun b => v.ownBlock = some b) W1 w2 := by
    rcases hg with ⟨_, h⟩ | ⟨_, h⟩
    · exact h
    · exact h.mono fun _ _ h => h.elim
  have hkk : Kept (fun b => v.ownBlock = some b) W w2 := (hk.mono fun _ _ h => h.elim).trans hg2 fun _ _ h => h
  have hJ2 : CJ w B M (f v) g L A S mp X w2 := hJ.step hkk fun b hb => by have := (owns_lt hO b hb).1; omega
  have hJ3 := hJ2.set j v2 hj hnd
  rw [← hf] at hJ3
  have hc := kept_cell w2 z v2
  have hk3 : Kept (fun b => b = z ∨ v.ownBlock = some b) W (w2.setCell ⟨z, 0, none⟩ v2) := (hkk.mono fun _ _ h => .inr h).trans hc fun _ _ h => .inl h
  refine ⟨⟨fun x hx => hk3.block x ?_ ?_, hk3.size⟩, v2, hJ3, ?_, fun b hb hXb => ?_⟩
  · rcases hx with hx | rfl | rfl
    · exact (hJ.far x hx).2
    · omega
    · omega
  · rintro (rfl | hb)
    · rcases hx with hx | hx | hx
      · have := (hJ.far _ hx).1; omega
      · omega
      · omega
    · rcases hx with hx | hx | hx
      · exact hX x hb hx
      · have := (owns_lt hO x hb).1; omega
      · have := (owns_lt hO x hb).1; omega
  · have hl : (D ++ [x]).length = D.length + 1 := by simp
    rw [hl]
    exact owns_keep ho hc fun b hb e => by have := (owns_lt ho b hb).1; omega
  · have hXl := (hJ.far b hXb).2
    rcases hg with ⟨h1, _⟩ | ⟨h1, _⟩
    · rw [h1] at hb; exact hX b hb hXb
    · rw [h1] at hb
      injection hb with hb
      omega
/-- a round has left it so -/
def GroR {α : Type} (E : Enc α) (t : TypeId) (w : World) (B : Nat) (M : Nat → Prop) (f : Value → List Box) (g : Nat) (L : List Nd) (A : ID → Nat) (S : ID → Rw) (mp : Option Nat) (D : List α) (X : Nat → Prop) (W : World) (_ : Act) (W' : World) : Prop :=
  ((∀ x, X x ∨ x = B ∨ x = B + 1 → W'.heap[x]? = W.heap[x]?) ∧ W.heap.size ≤ W'.heap.size) ∧ Gro E t w B M f g L A S mp D X W'
/-- an append as a step of a drawn region in a round -/
theorem step_append_in {F : Fence} {n : Nat} {P : Program} {α : Type} (E : Enc α) {o : Oper} {a : Act} {w : World} {K : Act → World → Prop} {Q : Exit → Act → World → Prop} {R : Result Next} (s y : Operand) (t : TypeId)
    (hop : o.op = Op.call { callee := Callee.builtin Builtin.append, args := #[s, y], argTypes := #[t, t] }) (base : Nat) (e : TypeId) (z : Value) (bytes : Nat) (ht : P.underlying t = some (.slice e))
    (hinfo : (P.info? e).map (fun i => (i.zero, i.size, i.bytes)) = some (some z, E.k, bytes)) (hzs : z.cells.size = E.k) (hb4 : bytes ≤ 4096) {v : Value} {D : List α} {x : α} {ad : Addr} {c : Nat} (hs : a.eval s = v) (hx : a.eval y = .slice (some ad) 1 c)
    (himp : o.uponIn F n P a K Q ((execOp a.eval o).run P w) → o.uponIn F n P a K Q R)
    (hown : w.ownsRow base e E.k v D.length (E.flat D)) (hL : SlAt E w (.slice (some ad) 1 c) [x]) (h63 : D.length ≤ 1000000) (hbase : base ≤ w.heap.size)
    (hK : ∀ v' w', w'.ownsRow base e E.k v' (D.length + 1) (E.flat (D ++ [x])) → Grow1 w w' v v' → K (a.put o.dst v') w') : o.uponIn F n P a K Q R := by
  refine himp ?_
  obtain ⟨v', w', hr, h2, h3⟩ := run_append_keeps (P := P) E t o.type e base z bytes ht hinfo hzs hb4 hown hL h63 hbase
  simp only [hop, execOp, resolve, invoke, builtin, Sem.run_bind, Sem.run_pure, Result.andThen_ok, List.map_toArray, List.map_cons, List.map_nil, hs, hx, hr]
  exact hK v' w' h2 h3
end Go.Proofs.Ytlafodnaifghcaa.Tr
namespace Go.Proofs.Ytlafodnaifghcaa.Tr
open Go.RowKit Go.Proofs.Ytlafodnaifghcaa.St Go.Shelf
attribute [local go_sem] Oper.semAt_some
theorem info_node : (Try.prog.info? 59).map (fun i => (i.zero, i.size, i.bytes)) = some (some (.agg #[.int .i64 0, .int .i64 0, .int .i64 0, .int .i64 0, .int .i32 0, .int .i64 0]), 6, 48) := by kernel_rfl
def nodesB (z g : Nat) (v : Value) : List Box :=
  [(z, 42, #[v]), (z + 1, 25, #[.pointer (some ⟨g, 0, none⟩)])]
theorem nodesB_nodup (z g : Nat) (v : Value) : ((nodesB z g v).map (·.1)).Nodup := by
  simp [nodesB]
def nodesJ (w : World) (B g : Nat) (L : List Nd) (A : ID → Nat) (S : ID → Rw) (mp : Option Nat) (i : Nat) (X : Nat → Prop) (W : World) : Prop :=
  Gro nodeE 59 w B (fun _ => False) (nodesB w.heap.size g) g L A S mp (L.take i) X W
/-- a row that is clipped: nil, or one in a block of its own -/
def ClipAt {α : Type} (E : Enc α) (t : TypeId) (base : Nat) (w : World) (v : Value) (D : List α) : Prop :=
  (v = .slice none 0 0 ∧ D = []) ∨ ∃ b cap, v = .slice (some ⟨b, 0, none⟩) D.length D.length ∧ base ≤ b ∧ OwnAt E w t b cap D
theorem clip_any (a : Option Addr) (n c : Nat) (h : n ≤ c) (w : World) : Calls Try.prog 48 #[.slice a n c] w fun e w' => e = .returned (.slice a n n) ∧ w' = w := by
  go_enter Try.func48, Try.ntmps48
  go_wp2
  go_ret
  exact ⟨rfl, rfl⟩
set_option maxRecDepth 100000 in
set_option maxHeartbeats 8000000 in
theorem nodes_any {w : World} {g : Nat} {L : List Nd} {A : ID → Nat} {S : ID → Rw} {mp : Option Nat} (h : TAt w g L A S mp) (hdoc : Doc L) (hlen : L.length ≤ 900000) :
    Calls Try.prog 20 #[.pointer (some ⟨g, 0, none⟩)] w fun e w' => (∃ v, e = .returned v ∧ ClipAt nodeE 59 w.heap.size w' v L) ∧ Kept (fun _ => False) w w' := by
  refine (callsIn_wide (n := 6)).1 ?_
  refine callsIn_of_wp_marks Try.func20 rfl trivial ?_ rfl
  simp only [Try.ntmps20, List.size_toArray, List.length_cons, List.length_nil, Nat.reduceAdd, Nat.reduceSub, Array.replicate_succ, Array.replicate_zero, List.push_toArray, List.append_toArray, List.nil_append, List.cons_append]
  gi_wp2_with (refine ⟨trivial, ?_⟩; gi_at_call 33; refine (callsIn_wide.2 (all_any g _)).mono ?_; rintro e w' ⟨rfl, rfl⟩)
  obtain ⟨W0, hW0⟩ : ∃ W0, ((w.alloc (.cells #[.slice none 0 0] 42)).alloc (.cells #[.pointer (some ⟨g, 0, none⟩)] 25)) = W0 := ⟨_, rfl⟩
  have hC : CJ w W0.heap.size (fun _ => False) (nodesB w.heap.size g (.slice none 0 0)) g L A S mp (fun _ => False) W0 := by
    rw [← hW0]
    have h9 := (((CJ.start (M := fun _ => False) h).boxed #[.slice none 0 0] 42)).boxed #[.pointer (some ⟨g, 0, none⟩)] 25
    simp only [World.size_alloc] at h9 ⊢
    exact h9
  rw [hW0]
  clear hW0
  refine wpIn_iter rfl (by decide) (gf := 62) (lb := #[.pointer (some ⟨w.heap.size + 1, 0, none⟩)]) rfl trivial (enters_of Try.func62 (by kernel_rfl) rfl) (all1_iter (A := A) (S := S) (g := g) trivial rfl (by decide) hdoc hlen) (fun _ _ => rfl) W0.heap.size rfl (nodesJ w W0.heap.size g L A S mp) (fun _ _ _ => False) ?hrd ?hgr ?hgx ?hob ?hox ?h0 ?round ?done ?stop
  case hrd => rintro i X W ⟨v, hJ, _⟩; exact ⟨hJ.cell 1 rfl 0 rfl, hJ.tree.shape⟩
  case hgr => intro i X W W' hJ hk; exact Gro.grow hJ hk
  case hgx => intro c X W W' h _; exact h
  case hob => intro i X W o' hJ; exact Gro.put hJ o'
  case hox => intro c X W o' hJ; exact hJ
  case h0 =>
    intro o1 o2
    have h9 : Gro nodeE 59 w W0.heap.size (fun _ => False) (nodesB w.heap.size g) g L A S mp [] (fun _ => False) W0 := ⟨_, hC, World.ownsRow_nil .., fun b hb => by cases hb⟩
    exact (h9.alloc o1).alloc o2
  case round =>
    intro i W K hi hK
    have hm := nth_lt hi
    unfold allEnc
    generalize nth L i = m at hm ⊢
    gi_wp2
    rintro X W h2 ⟨v, hJ, hO, hX⟩
    have he := hJ.tree.elt m (List.mem_of_getElem? hm)
    have e0 : W.cell? ⟨A m.id, 0, none⟩ = some (.int .i64 m.id.t) := he.cell' rfl
    have e1 : W.cell? ⟨A m.id, 1, none⟩ = some (.int .i64 m.id.s) := he.cell' rfl
    have e2 : W.cell? ⟨A m.id, 2, none⟩ = some (.int .i64 m.ref.t) := he.cell' rfl
    have e3 : W.cell? ⟨A m.id, 3, none⟩ = some (.int .i64 m.ref.s) := he.cell' rfl
    have e4 : W.cell? ⟨A m.id, 4, none⟩ = some (.int .i32 m.rune) := he.cell' rfl
    have e5 : W.cell? ⟨A m.id, 5, none⟩ = some (.int .i64 m.st) := he.cell' rfl
    obtain ⟨va, vc, rfl⟩ := owns_sl hO
    have f0 := hJ.frozen 0 rfl 0
    have hlen2 : (L.take i).length ≤ 1000000 := by have := List.length_take_le i L; omega
    have hli : (L.take i).length = i := by rw [List.length_take]; omega
    have n1 : ¬ A m.id = w.heap.size := by have := hJ.low (A m.id) (.inr (.inr (.inl ⟨m.id, List.mem_map.2 ⟨m, List.mem_of_getElem? hm, rfl⟩, rfl⟩))); omega
    have hzl : w.heap.size < W.heap.size := (hJ.at_ 0 rfl).lt
    have hlit : SlAt nodeE (W.drew.alloc (.cells #[.int .i64 m.id.t, .int .i64 m.id.s, .int .i64 m.ref.t, .int .i64 m.ref.s, .int .i32 m.rune, .int .i64 m.st] 59)) (.slice (some ⟨W.heap.size, 0, none⟩) 1 1) [m] := SlAt.lit [m] _ (by simp [Enc.flat, nodeE, ndC]) (by unfold maxLen; simp)
    have hk1 : Kept (fun _ => False) W (W.drew.alloc (.cells #[.int .i64 m.id.t, .int .i64 m.id.s, .int .i64 m.ref.t, .int .i64 m.ref.s, .int .i32 m.rune, .int .i64 m.st] 59)) := ((Kept.refl _ _).drew).alloc _
    have hown := owns_keep hO hk1 (fun _ _ h => h)
    rw [show Value.slice va (L.take i).length vc = .slice va i vc by rw [hli]] at hown hO hJ hX
    have HOWN := Lib.hid hown
    have HK1 := Lib.hid hk1
    have HB := Lib.hid (show W0.heap.size + 2 ≤ (W.drew.alloc (.cells #[.int .i64 m.id.t, .int .i64 m.id.s, .int .i64 m.ref.t, .int .i64 m.ref.s, .int .i32 m.rune, .int .i64 m.st] 59)).heap.size by simp; omega)
    clear hown hk1
    have c0 : W.cell? ⟨w.heap.size, 0, none⟩ = some (.slice va i vc) := hJ.cell 0 rfl 0 rfl
    have HJ := Lib.hid hJ
    have HO := Lib.hid hO
    have HX := Lib.hid hX
    have H2 := Lib.hid h2
    have HM := Lib.hid hm
    have HLIT := Lib.hid hlit
    have HL2 := Lib.hid hlen2
    have HLI := Lib.hid hli
    clear hJ hO hX h2 hm hlit hlen2 hli he
    gi_wp2
    refine region_any (GroR nodeE 59 w W0.heap.size (fun _ => False) (nodesB w.heap.size g) g L A S mp (L.take i ++ [m]) X W) ?_ ?_
    focus
      gi_region_with ((refine step_append_in (w := W.drew.alloc (.cells #[.int .i64 m.id.t, .int .i64 m.id.s, .int .i64 m.ref.t, .int .i64 m.ref.s, .int .i32 m.rune, .int .i64 m.st] 59)) nodeE (.tmp 8) (.tmp 13) 42 rfl (W0.heap.size + 2) 59 (.agg #[.int .i64 0, .int .i64 0, .int .i64 0, .int .i64 0, .int .i32 0, .int .i64 0]) 48 Try.underlying42 info_node rfl (by decide) rfl rfl (by go_simp) HOWN.out HLIT.out HL2.out HB.out ?_; rintro v2 w2 ho2 hg2; have hJ2 := Gro.after HJ.out HO.out HK1.out hg2; rw [HLI.out] at ho2; obtain ⟨va2, vc2, rfl⟩ := owns_sl ho2; have d0 : w2.cell? ⟨w.heap.size, 0, none⟩ = some (.slice va i vc) := hJ2.cell 0 rfl 0 rfl; have g0 := hJ2.frozen 0 rfl 0; clear hJ2))
      all_goals exact ⟨rfl, Gro.appended HJ.out HO.out HX.out H2.out HK1.out hg2 (by rw [HLI.out]) ho2 0 rfl (nodesB_nodup ..) rfl⟩
    rintro a' W' ⟨ho, hG⟩
    gi_wp2
    refine ⟨ho.1, ho.2, ?_⟩
    show Gro _ _ _ _ _ _ _ _ _ _ _ _ _ _
    rw [List.take_add_one, HM.out]
    exact hG
  case done =>
    rintro X W hJ0 hK
    obtain ⟨v, hJ, hO, hX⟩ := hJ0
    rw [List.take_length] at hO
    have hO2 := hO
    obtain ⟨va, vc, rfl⟩ := owns_sl hO
    have c0 : W.cell? ⟨w.heap.size, 0, none⟩ = some (.slice va L.length vc) := hJ.cell 0 rfl 0 rfl
    have hle : L.length ≤ vc ∧ vc ≤ maxLen := by
      rcases (own_of hO).2 with ⟨h1, h2⟩ | ⟨b, cap, h1, _, h3⟩
      · injection h1 with _ h4 h5; exact ⟨by omega, by unfold maxLen; omega⟩
      · injection h1 with _ _ h5; subst h5; exact h3.le
    have hcl := clip_any va L.length vc hle.1 W
    have HJ := Lib.hid hJ
    have HO := Lib.hid hO
    have HK := Lib.hid hK
    clear hJ hO hX hK hO2 hle
    gi_wp2_with (refine ⟨trivial, ?_⟩; gi_at_call 48; refine (callsIn_wide.2 hcl).mono ?_; rintro e w' ⟨rfl, rfl⟩)
    have hC2 := HJ.out.taken (.deferred none)
    refine ret_range HK.out (results_tmp rfl _ _ _) ⟨⟨.slice va L.length L.length, rfl, ?_⟩, hC2.kept⟩
    have hO3 := owns_keep HO.out (kept_put w' W0.heap.size (.deferred none)) fun b hb e => by have := (owns_lt HO.out b hb).1; omega
    have hs0 := HJ.out.size.1
    rcases (own_of hO3).2 with ⟨h1, h2⟩ | ⟨b, cap, h1, h2, h3⟩
    · injection h1 with h4 h5 h6
      exact .inl ⟨by rw [h4, h5], h2⟩
    · injection h1 with h4 h5 h6
      exact .inr ⟨b, cap, by rw [h4], by omega, h3⟩
  case stop =>
    rintro c X W h _
    exact h.elim
end Go.Proofs.Ytlafodnaifghcaa.Tr
