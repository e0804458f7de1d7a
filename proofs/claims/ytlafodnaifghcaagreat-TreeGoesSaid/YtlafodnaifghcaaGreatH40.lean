/- TreeGoes: what stands while the iterator goes: plain laws of the state. TreeGoes: the state of its first loop, and what stands when its iterator begins: plain laws. known: what the document fixes. -/
import Derived.Test.YtlafodnaifghcaaGreatH39
import Derived.Test.YtlafodnaifghcaaGreatH30
import Derived.Test.YtlafodnaifghcaaGreatH35
import Derived.Test.YtlafodnaifghcaaGreatH29
import Derived.Deep.RegionHeld3
namespace Go.Proofs.YtlafodnaifghcaaGreat.Tr
open Go.RowKit Go.Sort Go.Proofs.YtlafodnaifghcaaGreat.St Go.Proofs.YtlafodnaifghcaaGreat Go.Proofs.YtlafodnaifghcaaGreat.Gl
/-- what does not change: the world at the start, how many blocks there were when the walk began, the tree's and the rows' then, the boxes, the values -/
structure GC where
  w0 : World
  N : Nat
  F0 : Nat → Prop
  R0 : Nat → Prop
  bw : Nat
  bt : Nat
  z : Nat
  bi : Nat
  bs : Nat
  bn : Nat
  bo : Nat
  pl : Nat
  wv : Value
  pv : Value
  sv : Value
  M0 : List Nd
def GC.box (c : GC) (b : Nat) : Prop := b = c.bw ∨ b = c.bt ∨ b = c.z ∨ b = c.bi ∨ b = c.bs ∨ b = c.bn ∨ b = c.bo ∨ b = c.pl
structure GC.Ok (c : GC) : Prop where
  far : ∀ b, c.box b → b < c.N ∧ ¬ c.F0 b ∧ ¬ c.R0 b ∧ c.w0.heap.size ≤ b
  nd : [c.bw, c.bt, c.z, c.bi, c.bs, c.bn, c.bo, c.pl].Nodup
  rowp : ∀ b, c.pv.ownBlock = some b → c.R0 b
  rows : ∀ b, c.sv.ownBlock = some b → c.R0 b
  dead : ∀ b, c.R0 b → b < c.N ∧ ¬ c.F0 b
def GC.X (c : GC) (b : Nat) : Prop := b < c.N ∧ ¬ c.F0 b
structure GI (c : GC) (T : Nat) (i : Nat) (g : Nat) (L : List Nd) (v : Value) (Y : Nat → Prop) (W : World) : Prop where
  pj : PJ c.X c.w0 c.z g L v Y W
  yr : ∀ b, Y b → b < c.N → c.F0 b ∨ c.R0 b
  ok : OkN L T
  size : c.N ≤ W.heap.size
  hw : Blk W c.bw 22 #[c.wv]
  ht : Blk W c.bt 25 #[.pointer (some ⟨g, 0, none⟩)]
  hi : Blk W c.bi 54 #[.func (.func 52) #[] #[.pointer (some ⟨c.pl, 0, none⟩)]]
  hs : Blk W c.bs 31 #[c.sv]
  hn : Blk W c.bn 3 #[.int .i64 i]
  ho : Blk W c.bo 4 #[.bool true]
  hp : Blk W c.pl 31 #[c.pv]
  row : SlAt nodeE W c.pv (shL c.M0)
  was : SlAt nodeE W c.sv c.M0
section
variable {c : GC} {T T' i g g' : Nat} {L L' : List Nd} {v v' : Value} {Y : Nat → Prop} {W W' : World}
/-- a box is not among the pair's blocks -/
theorem GI.notY (h : GI c T i g L v Y W) (ok : c.Ok) {b : Nat} (hb : c.box b) : ¬ Y b := fun hy => (h.yr b hy (ok.far b hb).1).elim (ok.far b hb).2.1 (ok.far b hb).2.2.1
/-- what stays through a change of others' blocks -/
theorem GI.keep (h : GI c T i g L v Y W) (ok : c.Ok) {S : Nat → Prop} (hk : Kept S W W') (hS : ∀ b, S b → ¬ c.box b ∧ ¬ c.R0 b) {Y' : Nat → Prop} (hj : PJ c.X c.w0 c.z g L v Y' W') (hy : ∀ b, Y' b → b < c.N → c.F0 b ∨ c.R0 b) : GI c T i g L v Y' W' :=
  have n : ∀ {b}, c.box b → ¬ S b := fun hb hs => (hS _ hs).1 hb
  ⟨hj, hy, h.ok, Nat.le_trans h.size hk.size, hk.blk (n (.inl rfl)) h.hw, hk.blk (n (.inr (.inl rfl))) h.ht, hk.blk (n (.inr (.inr (.inr (.inl rfl))))) h.hi, hk.blk (n (.inr (.inr (.inr (.inr (.inl rfl)))))) h.hs, hk.blk (n (.inr (.inr (.inr (.inr (.inr (.inl rfl))))))) h.hn, hk.blk (n (.inr (.inr (.inr (.inr (.inr (.inr (.inl rfl)))))))) h.ho, hk.blk (n (.inr (.inr (.inr (.inr (.inr (.inr (.inr rfl)))))))) h.hp,
    h.row.keep hk fun b hb _ hs => (hS b hs).2 (ok.rowp b hb), h.was.keep hk fun b hb _ hs => (hS b hs).2 (ok.rows b hb)⟩
theorem GI.still (h : GI c T i g L v Y W) (ok : c.Ok) (hk : Kept (fun _ => False) W W') : GI c T i g L v Y W' := h.keep ok hk (fun _ h => h.elim) (h.pj.still hk) h.yr
theorem GI.more (h : GI c T i g L v Y W) (hT : T ≤ T') : GI c T' i g L v Y W := { h with ok := ⟨Nat.le_trans h.ok.len hT, h.ok.ok⟩ }
/-- a store into the counter's box -/
theorem GI.setN (h : GI c T i g L v Y W) (ok : c.Ok) : GI c T (i + 1) g L v Y (W.setCell ⟨c.bn, 0, none⟩ (.int .i64 ((i : Int) + 1))) := by
  have hk := kept_cell W c.bn (.int .i64 ((i : Int) + 1))
  have hnd := ok.nd
  simp only [List.nodup_cons, List.mem_cons, List.not_mem_nil, or_false, not_or] at hnd
  obtain ⟨⟨_, _, _, _, a5, _, _⟩, ⟨_, _, _, b4, _, _⟩, ⟨_, _, c3, _, _⟩, ⟨_, d2, _, _⟩, ⟨e1, _, _⟩, ⟨f1, f2⟩, _⟩ := hnd
  have hb : c.box c.bn := .inr (.inr (.inr (.inr (.inr (.inl rfl)))))
  exact ⟨h.pj.keep hk fun b e => by subst e; exact ⟨(ok.far _ hb).2.2.2, h.notY ok hb, fun e => c3 e.symm⟩, h.yr, h.ok, Nat.le_trans h.size hk.size, hk.blk a5 h.hw, hk.blk b4 h.ht, hk.blk d2 h.hi, hk.blk e1 h.hs, by
      have h9 := h.hn.set_ 0 (.int .i64 ((i : Int) + 1))
      exact h9, hk.blk (fun e => f1 e.symm) h.ho, hk.blk (fun e => f2 e.symm) h.hp, h.row.keep hk fun b hb9 _ e => by subst e; exact (ok.far _ hb).2.2.1 (ok.rowp _ hb9), h.was.keep hk fun b hb9 _ e => by subst e; exact (ok.far _ hb).2.2.1 (ok.rows _ hb9)⟩
/-- ... of what has been true -/
theorem GI.setO (h : GI c T i g L v Y W) (ok : c.Ok) : GI c T i g L v Y (W.setCell ⟨c.bo, 0, none⟩ (.bool true)) := by
  have hk := kept_cell W c.bo (.bool true)
  have hnd := ok.nd
  simp only [List.nodup_cons, List.mem_cons, List.not_mem_nil, or_false, not_or] at hnd
  obtain ⟨⟨_, _, _, _, _, a6, _⟩, ⟨_, _, _, _, b5, _⟩, ⟨_, _, _, c4, _⟩, ⟨_, _, d3, _⟩, ⟨_, e2, _⟩, ⟨f1, _⟩, g1, _⟩ := hnd
  have hb : c.box c.bo := .inr (.inr (.inr (.inr (.inr (.inr (.inl rfl))))))
  exact ⟨h.pj.keep hk fun b e => by subst e; exact ⟨(ok.far _ hb).2.2.2, h.notY ok hb, fun e => c4 e.symm⟩, h.yr, h.ok, Nat.le_trans h.size hk.size, hk.blk a6 h.hw, hk.blk b5 h.ht, hk.blk d3 h.hi, hk.blk e2 h.hs, hk.blk f1 h.hn, h.ho.set_ 0 (.bool true), hk.blk (fun e => g1 e.symm) h.hp, h.row.keep hk fun b hb9 _ e => by subst e; exact (ok.far _ hb).2.2.1 (ok.rowp _ hb9), h.was.keep hk fun b hb9 _ e => by subst e; exact (ok.far _ hb).2.2.1 (ok.rows _ hb9)⟩
/-- a call of does: the tree's pointer and the document's row laid into their boxes -/
theorem GI.does (h : GI c T i g L v Y W) (ok : c.Ok) (hp : PT c.X c.w0 W' g' L' L' v' (grown Y W W')) (hk : Kept (chg c.X Y) W W') (hok : OkN L' T') : GI c T' i g' L' v' (grown Y W W') ((W'.setCell ⟨c.bt, 0, none⟩ (.pointer (some ⟨g', 0, none⟩))).setCell ⟨c.z, 0, none⟩ v') := by
  have k1 := kept_cell W' c.bt (.pointer (some ⟨g', 0, none⟩))
  have hb : c.box c.bt := .inr (.inl rfl)
  have hz : c.box c.z := .inr (.inr (.inl rfl))
  have hnd := ok.nd
  simp only [List.nodup_cons, List.mem_cons, List.not_mem_nil, or_false, not_or] at hnd
  obtain ⟨⟨a1, a2, _, _, _, _, _⟩, ⟨b1, b2, b3, b4, b5, b6⟩, ⟨c1, c2, c3, c4, c5⟩, _⟩ := hnd
  have hY : ∀ {b}, c.box b → ¬ grown Y W W' b := fun hb9 h9 => h9.elim (h.notY ok hb9) fun h8 => by have := (ok.far _ hb9).1; have := h.size; have := h8.1; omega
  have hX : ∀ {b}, c.X b → ¬ chg c.X Y b := fun hx h9 => h9.2 hx
  have hX2 : ∀ {b}, c.box b → c.X b := fun hb9 => ⟨(ok.far _ hb9).1, (ok.far _ hb9).2.1⟩
  have hX3 : ∀ {b}, c.R0 b → c.X b := fun hb9 => ok.dead _ hb9
  have p1 : PT c.X c.w0 (W'.setCell ⟨c.bt, 0, none⟩ (.pointer (some ⟨g', 0, none⟩))) g' L' L' v' (grown Y W W') := hp.keep k1 fun b e => by subst e; exact ⟨(ok.far _ hb).2.2.2, hY hb⟩
  have k2 := kept_cell (W'.setCell ⟨c.bt, 0, none⟩ (.pointer (some ⟨g', 0, none⟩))) c.z v'
  have hzz : Blk (W'.setCell ⟨c.bt, 0, none⟩ (.pointer (some ⟨g', 0, none⟩))) c.z 33 #[v] := k1.blk (fun e => b1 e.symm) (hk.blk (hX (hX2 hz)) h.pj.box)
  have q1 : ∀ {b t cs}, c.X b → ¬ b = c.bt → ¬ b = c.z → Blk W b t cs → Blk ((W'.setCell ⟨c.bt, 0, none⟩ (.pointer (some ⟨g', 0, none⟩))).setCell ⟨c.z, 0, none⟩ v') b t cs := fun hx n1 n2 hB => k2.blk n2 (k1.blk n1 (hk.blk (hX hx) hB))
  have r1 : ∀ {u : Value} {D : List Nd}, (∀ b, u.ownBlock = some b → c.R0 b) → SlAt nodeE W u D → SlAt nodeE ((W'.setCell ⟨c.bt, 0, none⟩ (.pointer (some ⟨g', 0, none⟩))).setCell ⟨c.z, 0, none⟩ v') u D := fun hr hs => ((hs.keep hk fun b hb9 _ => hX (hX3 (hr b hb9))).keep k1 fun b hb9 _ e => by subst e; exact (ok.far _ hb).2.2.1 (hr _ hb9)).keep k2 fun b hb9 _ e => by subst e; exact (ok.far _ hz).2.2.1 (hr _ hb9)
  exact ⟨⟨p1.keep k2 fun b e => by subst e; exact ⟨(ok.far _ hz).2.2.2, hY hz⟩, hzz.set_ 0 v', (ok.far _ hz).2.2.2, hY hz⟩, fun b hb9 hN => hb9.elim (fun h8 => h.yr b h8 hN) fun h8 => by have := h.size; have := h8.1; omega, hok, Nat.le_trans h.size (Nat.le_trans hk.size (Nat.le_trans k1.size k2.size)),
    q1 (hX2 (.inl rfl)) a1 a2 h.hw, k2.blk b1 ((hk.blk (hX (hX2 hb)) h.ht).set_ 0 _), q1 (hX2 (.inr (.inr (.inr (.inl rfl))))) (fun e => b2 e.symm) (fun e => c1 e.symm) h.hi, q1 (hX2 (.inr (.inr (.inr (.inr (.inl rfl)))))) (fun e => b3 e.symm) (fun e => c2 e.symm) h.hs, q1 (hX2 (.inr (.inr (.inr (.inr (.inr (.inl rfl))))))) (fun e => b4 e.symm) (fun e => c3 e.symm) h.hn, q1 (hX2 (.inr (.inr (.inr (.inr (.inr (.inr (.inl rfl)))))))) (fun e => b5 e.symm) (fun e => c4 e.symm) h.ho, q1 (hX2 (.inr (.inr (.inr (.inr (.inr (.inr (.inr rfl)))))))) (fun e => b6 e.symm) (fun e => c5 e.symm) h.hp, r1 ok.rowp h.row, r1 ok.rows h.was⟩
end
end Go.Proofs.YtlafodnaifghcaaGreat.Tr
namespace Go.Proofs.YtlafodnaifghcaaGreat.Tr
open Go.RowKit Go.Sort Go.Proofs.YtlafodnaifghcaaGreat.St Go.Proofs.YtlafodnaifghcaaGreat Go.Proofs.YtlafodnaifghcaaGreat.Gl
structure GL (w : World) (bw bt z : Nat) (wv : Value) (g : Nat) (L : List Nd) (v : Value) (Y : Nat → Prop) (W : World) : Prop where
  pj : PJ (fun _ => False) w z g L v Y W
  hw : Blk W bw 22 #[wv]
  ht : Blk W bt 25 #[.pointer (some ⟨g, 0, none⟩)]
  far : ¬ Y bw ∧ ¬ Y bt ∧ w.heap.size ≤ bw ∧ w.heap.size ≤ bt
  ne : ¬ bw = bt ∧ ¬ bw = z ∧ ¬ bt = z
section
variable {w W W' : World} {bw bt z g g' : Nat} {wv : Value} {L L' : List Nd} {v v' : Value} {Y : Nat → Prop}
theorem GL.still (h : GL w bw bt z wv g L v Y W) (hk : Kept (fun _ => False) W W') : GL w bw bt z wv g L v Y W' := ⟨h.pj.still hk, hk.blk id h.hw, hk.blk id h.ht, h.far, h.ne⟩
theorem GL.does (h : GL w bw bt z wv g L v Y W) (hp : PT (fun _ => False) w W' g' L' L' v' (grown Y W W')) (hk : Kept (chg (fun _ => False) Y) W W') : GL w bw bt z wv g' L' v' (grown Y W W') ((W'.setCell ⟨bt, 0, none⟩ (.pointer (some ⟨g', 0, none⟩))).setCell ⟨z, 0, none⟩ v') := by
  have k1 := kept_cell W' bt (.pointer (some ⟨g', 0, none⟩))
  have k2 := kept_cell (W'.setCell ⟨bt, 0, none⟩ (.pointer (some ⟨g', 0, none⟩))) z v'
  have hy : ∀ {b}, ¬ Y b → b < W.heap.size → ¬ grown Y W W' b := fun h1 h2 h9 => h9.elim h1 fun h8 => by have := h8.1; omega
  have yw := hy h.far.1 h.hw.lt
  have yt := hy h.far.2.1 h.ht.lt
  have yz := hy h.pj.far.2 h.pj.box.lt
  have p1 := hp.keep k1 fun b e => by subst e; exact ⟨h.far.2.2.2, yt⟩
  exact ⟨⟨p1.keep k2 fun b e => by subst e; exact ⟨h.pj.far.1, yz⟩, (k1.blk (fun e => h.ne.2.2 e.symm) (hk.blk (fun h9 => h.pj.far.2 h9.1) h.pj.box)).set_ 0 v', h.pj.far.1, yz⟩,
    k2.blk h.ne.2.1 (k1.blk h.ne.1 (hk.blk (fun h9 => h.far.1 h9.1) h.hw)), k2.blk h.ne.2.2 ((hk.blk (fun h9 => h.far.2.1 h9.1) h.ht).set_ 0 _), ⟨yw, yt, h.far.2.2⟩, h.ne⟩
/-- the beginning -/
theorem gl_made (w : World) (wv : Value) : GL w w.heap.size (w.heap.size + 1 + 1) (w.heap.size + 1 + 1 + 1) wv (w.heap.size + 1) [] (.slice none 0 0) (· = w.heap.size + 1)
    ((((w.alloc (.cells #[wv] 22)).alloc (.cells #[.slice none 0 0, .map none] 30)).alloc (.cells #[.pointer (some ⟨w.heap.size + 1, 0, none⟩)] 25)).alloc (.cells #[.slice none 0 0] 33)) := by
  obtain ⟨w1, h1⟩ : ∃ w1, w.alloc (.cells #[wv] 22) = w1 := ⟨_, rfl⟩
  have s1 : w1.heap.size = w.heap.size + 1 := by rw [← h1]; exact World.size_alloc ..
  have k1 : Kept (fun _ => False) w w1 := by rw [← h1]; exact (Kept.refl _ _).alloc _
  have b1 : Blk w1 w.heap.size 22 #[wv] := by rw [← h1]; exact Blk.new w _ _
  rw [h1]
  have p2 := pt_made k1
  obtain ⟨w2, h2⟩ : ∃ w2, w1.alloc (.cells #[.slice none 0 0, .map none] 30) = w2 := ⟨_, rfl⟩
  have s2 : w2.heap.size = w.heap.size + 1 + 1 := by rw [← h2, World.size_alloc, s1]
  have k2 : Kept (fun _ => False) w1 w2 := by rw [← h2]; exact (Kept.refl _ _).alloc _
  rw [h2, s1] at p2
  rw [h2]
  obtain ⟨w3, h3⟩ : ∃ w3, w2.alloc (.cells #[.pointer (some ⟨w.heap.size + 1, 0, none⟩)] 25) = w3 := ⟨_, rfl⟩
  have s3 : w3.heap.size = w.heap.size + 1 + 1 + 1 := by rw [← h3, World.size_alloc, s2]
  have k3 : Kept (fun _ => False) w2 w3 := by rw [← h3]; exact (Kept.refl _ _).alloc _
  have b3 : Blk w3 (w.heap.size + 1 + 1) 25 #[.pointer (some ⟨w.heap.size + 1, 0, none⟩)] := by rw [← h3, ← s2]; exact Blk.new w2 _ _
  rw [h3]
  have j3 := (p2.still k3).boxed
  rw [s3] at j3
  have k4 : Kept (fun _ => False) w3 (w3.alloc (.cells #[.slice none 0 0] 33)) := (Kept.refl _ _).alloc _
  exact ⟨j3, k4.blk id (k3.blk id (k2.blk id b1)), k4.blk id b3, ⟨by omega, by omega, by omega, by omega⟩, by omega, by omega, by omega⟩
theorem PT.all {X : Nat → Prop} {M : List Nd} (h : PT X w W g L M v Y) (hlen : L.length ≤ 900000) :
    Calls Tryz.prog 15 #[.pointer (some ⟨g, 0, none⟩)] W fun e w' => (∃ b v, e = .returned (.func (.func 52) #[] #[.pointer (some ⟨b, 0, none⟩)]) ∧ W.heap.size ≤ b ∧ Blk w' b 31 #[v] ∧ w'.ownsRow W.heap.size 45 6 v (shL L).length (nodeE.flat (shL L))) ∧ Kept (fun _ => False) W w' := by
  obtain ⟨F, h1, _⟩ := h.tree
  exact h1.all hlen
/-- all but the tree's own blocks are dead from here on -/
theorem PT.freeze {X : Nat → Prop} {M : List Nd} (h : PT X w W g L M v Y) : ∃ F : Nat → Prop, (∀ b, F b → Y b ∧ v.ownBlock ≠ some b) ∧ PT (fun b => b < W.heap.size ∧ ¬ F b) w W g L M v (fun b => F b ∨ v.ownBlock = some b) := by
  obtain ⟨F, h1, h2⟩ := h.tree
  refine ⟨F, fun b hb => ⟨(h2 b hb).1.1, (h2 b hb).2⟩, h.kept, ⟨F, h1, fun b hb => ⟨⟨.inl hb, fun hx => hx.2 hb⟩, (h2 b hb).2⟩⟩, h.row, h.rowv, fun b hb => .inr hb, fun b hb => ?_, fun b hb => hb.1⟩
  rcases hb with hb | hb
  · exact h.room b (h2 b hb).1.1
  · exact h.room b (h.low b hb)
theorem seq_is_nil (p : Value) (w : World) : (binOp .eql 54 (.func (.func 52) #[] #[p]) .nilFunc).run Tryz.prog w = .ok (.bool false) w := by kernel_rfl
set_option maxHeartbeats 1000000 in
/-- what stands when the iterator begins -/
theorem go_start {w8 w10 : World} {va : Option Addr} {vc pl T : Nat} {pv : Value} (h : GL w bw bt z wv g L (.slice va L.length vc) Y W) (k8 : Kept (fun _ => False) W w8) (hpl : W.heap.size ≤ pl) (hb : Blk w8 pl 31 #[pv]) (ho : w8.ownsRow W.heap.size 45 6 pv (shL L).length (nodeE.flat (shL L)))
    (k10 : Kept (fun _ => False) (w8.alloc (.cells #[.func (.func 52) #[] #[.pointer (some ⟨pl, 0, none⟩)]] 54)) w10) (hok : OkN L T) :
    ∃ (N : Nat) (F0 R0 : Nat → Prop), GC.Ok ⟨w, N, F0, R0, bw, bt, z, w8.heap.size, w10.heap.size, w10.heap.size + 1, w10.heap.size + 1 + 1, pl, wv, pv, .slice va L.length vc, L⟩ ∧ ∃ Y2, GI ⟨w, N, F0, R0, bw, bt, z, w8.heap.size, w10.heap.size, w10.heap.size + 1, w10.heap.size + 1 + 1, pl, wv, pv, .slice va L.length vc, L⟩ T 0 g L (.slice va L.length vc) Y2
      (((w10.alloc (.cells #[.slice va L.length vc] 31)).alloc (.cells #[.int .i64 0] 3)).alloc (.cells #[.bool true] 4)) := by
  obtain ⟨w9, h9⟩ : ∃ w9, w8.alloc (.cells #[.func (.func 52) #[] #[.pointer (some ⟨pl, 0, none⟩)]] 54) = w9 := ⟨_, rfl⟩
  have s9 : w9.heap.size = w8.heap.size + 1 := by rw [← h9]; exact World.size_alloc ..
  have k9 : Kept (fun _ => False) w8 w9 := by rw [← h9]; exact (Kept.refl _ _).alloc _
  have b9 : Blk w9 w8.heap.size 54 #[.func (.func 52) #[] #[.pointer (some ⟨pl, 0, none⟩)]] := by rw [← h9]; exact Blk.new _ _ _
  rw [h9] at k10
  obtain ⟨w11, h11⟩ : ∃ w11, w10.alloc (.cells #[.slice va L.length vc] 31) = w11 := ⟨_, rfl⟩
  have s11 : w11.heap.size = w10.heap.size + 1 := by rw [← h11]; exact World.size_alloc ..
  have k11 : Kept (fun _ => False) w10 w11 := by rw [← h11]; exact (Kept.refl _ _).alloc _
  have b11 : Blk w11 w10.heap.size 31 #[.slice va L.length vc] := by rw [← h11]; exact Blk.new _ _ _
  rw [h11]
  obtain ⟨w12, h12⟩ : ∃ w12, w11.alloc (.cells #[.int .i64 0] 3) = w12 := ⟨_, rfl⟩
  have s12 : w12.heap.size = w10.heap.size + 1 + 1 := by rw [← h12, World.size_alloc, s11]
  have k12 : Kept (fun _ => False) w11 w12 := by rw [← h12]; exact (Kept.refl _ _).alloc _
  have b12 : Blk w12 (w10.heap.size + 1) 3 #[.int .i64 0] := by rw [← h12, ← s11]; exact Blk.new _ _ _
  rw [h12]
  obtain ⟨w13, h13⟩ : ∃ w13, w12.alloc (.cells #[.bool true] 4) = w13 := ⟨_, rfl⟩
  have s13 : w13.heap.size = w10.heap.size + 1 + 1 + 1 := by rw [← h13, World.size_alloc, s12]
  have k13 : Kept (fun _ => False) w12 w13 := by rw [← h13]; exact (Kept.refl _ _).alloc _
  have b13 : Blk w13 (w10.heap.size + 1 + 1) 4 #[.bool true] := by rw [← h13, ← s12]; exact Blk.new _ _ _
  rw [h13]
  have z8 := k8.size
  have z10 := k10.size
  have kA : Kept (fun _ => False) w10 w13 := (k11.trans k12 fun _ _ h => h).trans k13 fun _ _ h => h
  have kB : Kept (fun _ => False) w8 w13 := (k9.trans k10 fun _ _ h => h).trans kA fun _ _ h => h
  have kC : Kept (fun _ => False) W w13 := k8.trans kB fun _ _ h => h
  obtain ⟨F, hF, hP⟩ := (h.still kC).pj.pt.freeze
  have lw := h.hw.lt
  have lt' := h.ht.lt
  have lz := h.pj.box.lt
  have lp := hb.lt
  have hrow : ∀ b, pv.ownBlock = some b → W.heap.size ≤ b ∧ b < w8.heap.size ∧ ¬ b = pl := fun b hb9 => by
    obtain ⟨_, ⟨rfl, _⟩ | ⟨g', cap, rfl, hg', hO⟩⟩ := own_of (E := nodeE) ho
    · cases hb9
    · cases hb9
      obtain ⟨cs, hB, _⟩ := hO
      refine ⟨hg', hB.lt, fun e => ?_⟩
      subst e
      have e2 := hB.symm.trans hb
      injection e2 with e2
      injection e2 with _ e3
      exact absurd e3 (by decide)
  have hlow := fun b hb9 => h.pj.pt.low b hb9
  have hroom := h.pj.pt.room
  have nY : ∀ {b}, ¬ Y b → b < w13.heap.size → w.heap.size ≤ b → (∀ c, pv.ownBlock = some c → ¬ c = b) → b < w13.heap.size ∧ ¬ F b ∧ ¬ ((Value.slice va L.length vc).ownBlock = some b ∨ pv.ownBlock = some b) ∧ w.heap.size ≤ b := fun h1 h2 h3 h4 => ⟨h2, fun h9 => h1 (hF _ h9).1, fun h9 => h9.elim (fun h8 => h1 (hlow _ h8)) fun h8 => h4 _ h8 rfl, h3⟩
  have yY : ∀ {b}, W.heap.size ≤ b → ¬ Y b := fun h1 h2 => by have := (hroom _ h2).2; omega
  have hWw := h.pj.kept.size
  refine ⟨w13.heap.size, F, fun b => (Value.slice va L.length vc).ownBlock = some b ∨ pv.ownBlock = some b, ⟨?_, ?_, fun b hb9 => .inr hb9, fun b hb9 => .inl hb9, ?_⟩, fun b => F b ∨ (Value.slice va L.length vc).ownBlock = some b, ?_⟩
  · rintro b (rfl | rfl | rfl | rfl | rfl | rfl | rfl | rfl)
    · exact nY h.far.1 (by (try dsimp only at lw ⊢); omega) h.far.2.2.1 fun c hc e => by have := (hrow c hc).1; (try dsimp only at e); omega
    · exact nY h.far.2.1 (by (try dsimp only at lt' ⊢); omega) h.far.2.2.2 fun c hc e => by have := (hrow c hc).1; (try dsimp only at e); omega
    · exact nY h.pj.far.2 (by (try dsimp only at lz ⊢); omega) h.pj.far.1 fun c hc e => by have := (hrow c hc).1; (try dsimp only at e); omega
    · exact nY (yY (by (try dsimp only); omega)) (by (try dsimp only); omega) (by (try dsimp only); omega) fun c hc e => by have := (hrow c hc).2.1; (try dsimp only at e); omega
    · exact nY (yY (by (try dsimp only); omega)) (by (try dsimp only); omega) (by (try dsimp only); omega) fun c hc e => by have := (hrow c hc).2.1; (try dsimp only at e); omega
    · exact nY (yY (by (try dsimp only); omega)) (by (try dsimp only); omega) (by (try dsimp only); omega) fun c hc e => by have := (hrow c hc).2.1; (try dsimp only at e); omega
    · exact nY (yY (by (try dsimp only); omega)) (by (try dsimp only); omega) (by (try dsimp only); omega) fun c hc e => by have := (hrow c hc).2.1; (try dsimp only at e); omega
    · exact nY (yY (by (try dsimp only); omega)) (by (try dsimp only); omega) (by (try dsimp only); omega) fun c hc e => (hrow c hc).2.2 e
  · have := h.ne
    simp only [List.nodup_cons, List.mem_cons, List.not_mem_nil, or_false, not_or, List.nodup_nil, and_true, not_false_eq_true]
    refine ⟨⟨?_, ?_, ?_, ?_, ?_, ?_, ?_⟩, ⟨?_, ?_, ?_, ?_, ?_, ?_⟩, ⟨?_, ?_, ?_, ?_, ?_⟩, ⟨?_, ?_, ?_, ?_⟩, ⟨?_, ?_, ?_⟩, ⟨?_, ?_⟩, ?_⟩ <;> omega
  · rintro b (hb9 | hb9)
    · exact ⟨by have := (hroom b (hlow b hb9)).2; (try dsimp only); omega, fun h8 => (hF b h8).2 hb9⟩
    · exact ⟨by have := (hrow b hb9).2.1; (try dsimp only); omega, fun h8 => by have := (hroom b (hF b h8).1).2; have := (hrow b hb9).1; omega⟩
  · refine ⟨⟨hP, kC.blk id h.pj.box, h.pj.far.1, fun h9 => h9.elim (fun h8 => h.pj.far.2 (hF _ h8).1) fun h8 => h.pj.far.2 (hlow _ h8)⟩, fun b hb9 _ => hb9.elim .inl fun h8 => .inr (.inl h8), hok, Nat.le_refl _, kC.blk id h.hw, kC.blk id h.ht, (k10.trans kA fun _ _ h => h).blk id b9, (k12.trans k13 fun _ _ h => h).blk id b11, k13.blk id b12, b13, kB.blk id hb, (owns_slAt (E := nodeE) ho).kept kB, h.pj.pt.row.kept kC⟩
end
end Go.Proofs.YtlafodnaifghcaaGreat.Tr
namespace Go.Proofs.YtlafodnaifghcaaGreat.Tr
open Go.RowKit Go.Sort Go.Proofs.YtlafodnaifghcaaGreat.St Go.Proofs.YtlafodnaifghcaaGreat.Gl Go.Proofs.YtlafodnaifghcaaGreat
/-- the runs that are told -/
def kruns : List Run := [⟨⟨1, 1⟩, 3⟩, ⟨⟨4, 2⟩, 1⟩, ⟨⟨4, 3⟩, 1⟩]
/-- behind the inserts: the document's blocks are those up to W; an identifier and runs lie behind them -/
structure KW (w W : World) (g : Nat) (za : Nat) (v : Value) (L : List Nd) (Wc : World) : Prop where
  box : TBox Wc g L fun b => w.heap.size ≤ b ∧ b < W.heap.size
  kept : Kept (fun _ => False) w Wc
  a : Blk Wc za 37 #[.int .i64 4, .int .i64 3]
  za : W.heap.size ≤ za
  row : SlAt runE Wc v kruns
  far : ∀ b, v.ownBlock = some b → W.heap.size ≤ b
  size : W.heap.size ≤ Wc.heap.size
variable {w W Wc : World} {g za : Nat} {v : Value} {L : List Nd}
theorem KW.still {w' : World} (h : KW w W g za v L Wc) (hk : Kept (fun _ => False) Wc w') : KW w W g za v L w' :=
  ⟨h.box.still hk, h.kept.trans hk fun _ _ h => h, hk.blk (fun h => h) h.a, h.za, h.row.kept hk, h.far, Nat.le_trans h.size hk.size⟩
theorem KW.turned {w' : World} {L' : List Nd} (h : KW w W g za v L Wc) (ht : TBox w' g L' fun b => w.heap.size ≤ b ∧ b < W.heap.size) (hk : Kept (fun b => w.heap.size ≤ b ∧ b < W.heap.size) Wc w') : KW w W g za v L' w' :=
  ⟨ht, h.kept.trans hk fun b hb h9 => by omega, hk.blk (fun h9 => by have := h.za; omega) h.a, h.za, h.row.keep hk fun b hb _ h9 => by have := h.far b hb; omega, h.far, Nat.le_trans h.size hk.size⟩
theorem KW.lit (h : KW w W g za v L Wc) (n c : Nat) : ∀ b', (Value.slice (some ⟨Wc.heap.size, 0, none⟩) n c).ownBlock = some b' → ¬ (w.heap.size ≤ b' ∧ b' < W.heap.size) := fun b' h1 h2 => by
  have h3 : b' = Wc.heap.size := by simpa [Value.ownBlock] using h1.symm
  have := h.size
  omega
theorem KW.del (h : KW w W g za v k3 Wc) : Calls Tryz.prog 24 #[.pointer (some ⟨g, 0, none⟩), .slice (some ⟨Wc.heap.size, 0, none⟩) 1 1] (Wc.alloc (.cells #[.int .i64 1, .int .i64 1, .int .i64 3] 69)) fun e w' => e = .returned (.int .i64 3) ∧ KW w W g za v k4 w' := by
  have h2 := h.still ((Kept.refl _ Wc).alloc (.cells #[.int .i64 1, .int .i64 1, .int .i64 3] 69))
  refine (h2.box.delete (by decide) (SlAt.lit [⟨⟨1, 1⟩, 3⟩] #[.int .i64 1, .int .i64 1, .int .i64 3] rfl (by simp [maxLen])) (fun r hr => by rw [List.mem_singleton.1 hr]; simp [Run.In, I64]) (by decide) fun b hb _ => h.lit 1 1 b hb).mono ?_
  rintro e w' ⟨he, h3, h4⟩
  rw [kdel.1] at he
  rw [kdel.2] at h3
  exact ⟨he, h2.turned h3 h4⟩
theorem KW.set (h : KW w W g za v k4 Wc) : Calls Tryz.prog 26 #[.pointer (some ⟨g, 0, none⟩), .slice (some ⟨Wc.heap.size, 0, none⟩) 1 1] (Wc.alloc (.cells #[.int .i64 2, .int .i64 1, .int .i64 2] 69)) fun e w' => e = .returned (.int .i64 2) ∧ KW w W g za v k5 w' := by
  have h2 := h.still ((Kept.refl _ Wc).alloc (.cells #[.int .i64 2, .int .i64 1, .int .i64 2] 69))
  refine (h2.box.settle (by decide) (SlAt.lit [⟨⟨2, 1⟩, 2⟩] #[.int .i64 2, .int .i64 1, .int .i64 2] rfl (by simp [maxLen])) (fun r hr => by rw [List.mem_singleton.1 hr]; simp [Run.In, I64]) (by decide) fun b hb _ => h.lit 1 1 b hb).mono ?_
  rintro e w' ⟨he, h3, h4⟩
  rw [ksettle.1] at he
  rw [ksettle.2] at h3
  exact ⟨he, h2.turned h3 h4⟩
theorem KW.coll (h : KW w W g za v k5 Wc) : Calls Tryz.prog 27 #[.pointer (some ⟨g, 0, none⟩)] Wc fun e w' => e = .returned (.int .i64 2) ∧ KW w W g za v k6 w' := by
  refine (h.box.collect (by decide)).mono ?_
  rintro e w' ⟨he, h3, h4⟩
  rw [kcoll.1] at he
  rw [kcoll.2] at h3
  exact ⟨he, h.turned h3 h4⟩
theorem KW.runs (h : KW w W g za v L Wc) : Calls Tryz.prog 28 #[v, .slice (some ⟨Wc.heap.size, 0, none⟩) 3 3] (Wc.alloc (.cells #[.int .i64 1, .int .i64 1, .int .i64 3, .int .i64 4, .int .i64 2, .int .i64 1, .int .i64 4, .int .i64 3, .int .i64 1] 69)) fun e w' => e = .returned (.bool true) ∧ KW w W g za v L w' := by
  have h2 := h.still ((Kept.refl _ Wc).alloc (.cells #[.int .i64 1, .int .i64 1, .int .i64 3, .int .i64 4, .int .i64 2, .int .i64 1, .int .i64 4, .int .i64 3, .int .i64 1] 69))
  refine (lruns_eq h2.row (SlAt.lit kruns _ rfl (by simp [maxLen, kruns])) (by decide)).mono ?_
  rintro e w' ⟨he, q, rfl⟩
  exact ⟨he, h2.still ((Kept.refl _ _).drewN q)⟩
theorem KW.text (h : KW w W g za v k6 Wc) : Calls Tryz.prog 21 #[.pointer (some ⟨g, 0, none⟩)] Wc fun e w' => e = .returned (.string ⟨#[122, 120]⟩) ∧ KW w W g za v k6 w' := by
  refine (h.box.text (by decide)).mono ?_
  rintro e w' ⟨he, h4⟩
  rw [ktext.2.1] at he
  exact ⟨he, h.still h4⟩
theorem KW.len (h : KW w W g za v k6 Wc) : Calls Tryz.prog 30 #[.pointer (some ⟨g, 0, none⟩)] Wc fun e w' => e = .returned (.int .i64 2) ∧ KW w W g za v k6 w' := by
  refine (h.box.len (by decide)).mono ?_
  rintro e w' ⟨he, h4⟩
  rw [ktext.2.2.1] at he
  exact ⟨he, h.still h4⟩
theorem KW.many (h : KW w W g za v k6 Wc) : Calls Tryz.prog 29 #[.pointer (some ⟨g, 0, none⟩)] Wc fun e w' => e = .returned (.int .i64 3) ∧ KW w W g za v k6 w' := by
  refine h.box.kept.mono ?_
  rintro e w' ⟨he, rfl⟩
  exact ⟨he, h⟩
theorem KW.find (h : KW w W g za v k4 Wc) : Calls Tryz.prog 25 #[.pointer (some ⟨g, 0, none⟩), .agg #[.int .i64 2, .int .i64 1]] Wc fun e w' => e = .returned (.tuple #[.int .i64 2, .int .i64 2]) ∧ KW w W g za v k4 w' := by
  refine (h.box.find (by decide) ⟨2, 1⟩).mono ?_
  rintro e w' ⟨he, h4⟩
  rw [kfind.1] at he
  exact ⟨he, h.still h4⟩
set_option maxRecDepth 100000 in
set_option maxHeartbeats 8000000 in
theorem known_any (w : World) : Calls Tryz.prog 8 #[] w fun e w' => e = .returned (.bool true) ∧ Kept (fun _ => False) w w' := by
  have ST := Lib.hid (KT.made w)
  have I1 : Hid (∀ W, KT w w.heap.size [] W → Calls Tryz.prog 19 #[.pointer (some ⟨w.heap.size, 0, none⟩), .agg #[.int .i64 1, .int .i64 1], .agg #[.int .i64 0, .int .i64 0], .string ⟨#[104, 195, 169, 121]⟩] W fun e w' => e = .returned (.int .i64 0) ∧ KT w w.heap.size k1 w') := Lib.hid fun W h => by
    have h9 := h.insert ⟨1, 1⟩ ⟨0, 0⟩ sHey (by decide) (by decide +kernel)
    rw [kins1.1, kins1.2] at h9
    exact h9
  have I2 : Hid (∀ W, KT w w.heap.size k1 W → Calls Tryz.prog 19 #[.pointer (some ⟨w.heap.size, 0, none⟩), .agg #[.int .i64 4, .int .i64 2], .agg #[.int .i64 1, .int .i64 1], .string ⟨#[120]⟩] W fun e w' => e = .returned (.int .i64 0) ∧ KT w w.heap.size k2 w') := Lib.hid fun W h => by
    have h9 := h.insert ⟨4, 2⟩ ⟨1, 1⟩ ⟨#[120]⟩ (by decide) (by decide +kernel)
    rw [kins2.1, kins2.2] at h9
    exact h9
  have I3 : Hid (∀ W, KT w w.heap.size k2 W → Calls Tryz.prog 19 #[.pointer (some ⟨w.heap.size, 0, none⟩), .agg #[.int .i64 4, .int .i64 3], .agg #[.int .i64 1, .int .i64 1], .string ⟨#[122]⟩] W fun e w' => e = .returned (.int .i64 0) ∧ KT w w.heap.size k3 w') := Lib.hid fun W h => by
    have h9 := h.insert ⟨4, 3⟩ ⟨1, 1⟩ ⟨#[122]⟩ (by decide) (by decide +kernel)
    rw [kins3.1, kins3.2] at h9
    exact h9
  have I4 : Hid (∀ W, KT w w.heap.size k3 W → Calls Tryz.prog 19 #[.pointer (some ⟨w.heap.size, 0, none⟩), .agg #[.int .i64 4, .int .i64 2], .agg #[.int .i64 1, .int .i64 1], .string ⟨#[113]⟩] W fun e w' => e = .returned (.int .i64 12) ∧ KT w w.heap.size k3 w') := Lib.hid fun W h => by
    have h9 := h.insert ⟨4, 2⟩ ⟨1, 1⟩ ⟨#[113]⟩ (by decide) (by decide +kernel)
    rw [kins4.1, kins4.2] at h9
    exact h9
  have TX : Hid (∀ W, KT w w.heap.size k3 W → Calls Tryz.prog 21 #[.pointer (some ⟨w.heap.size, 0, none⟩)] W fun e w' => e = .returned (.string ⟨#[104, 122, 120, 195, 169, 121]⟩) ∧ Kept (fun _ => False) W w') := Lib.hid fun W h => by
    have h9 := h.2.text (by decide)
    rw [ktext.1] at h9
    exact h9
  go_enter Tryz.func8, Tryz.ntmps8
  go_upto_region 4 with (first
    | (go_at_call 9; refine (new_any _).mono ?_; rintro e w' ⟨rfl, rfl⟩; have K0 := Lib.hid ST.out)
    | (go_at_call 20; refine (id_any _ _ _).mono ?_; rintro e w' ⟨rfl, hg⟩; first | have K3 := Lib.hid (K3.out.still hg.kept) | have K2 := Lib.hid (K2.out.still hg.kept) | have K1 := Lib.hid (K1.out.still hg.kept) | have K0 := Lib.hid (K0.out.still hg.kept); clear hg)
    | (go_at_call 19; with_reducible refine (I4.out _ K3.out).mono ?_; rintro e w' ⟨rfl, ht⟩; have K3 := Lib.hid ht; clear ht)
    | (go_at_call 19; with_reducible refine (I3.out _ K2.out).mono ?_; rintro e w' ⟨rfl, ht⟩; have K3 := Lib.hid ht; clear ht)
    | (go_at_call 19; with_reducible refine (I2.out _ K1.out).mono ?_; rintro e w' ⟨rfl, ht⟩; have K2 := Lib.hid ht; clear ht)
    | (go_at_call 19; with_reducible refine (I1.out _ K0.out).mono ?_; rintro e w' ⟨rfl, ht⟩; have K1 := Lib.hid ht; clear ht)
    | (go_at_call 21; refine (TX.out _ K3.out).mono ?_; rintro e w' ⟨rfl, ht⟩; have K3 := Lib.hid (K3.out.still ht); clear ht))
  obtain ⟨W4, hW4⟩ : ∃ W4 : World, W4 = w' := ⟨_, rfl⟩
  rw [← hW4] at K3 ⊢
  clear hW4 I1 I2 I3 I4 TX ST
  have T4 := Lib.hid K3.out.2.low
  go_upto_region 5 with (go_at_call 22; refine (T4.out.look (by decide) 1).mono ?_; rw [kfind.2]; rintro e w5 ⟨rfl, hk5⟩)
  have hA := Blk.new w5 37 #[.int .i64 4, .int .i64 3]
  have hk6 : Kept (fun _ => False) W4 (w5.alloc (.cells #[.int .i64 4, .int .i64 3] 37)) := hk5.alloc _
  have hza := hk5.size
  have T6 := Lib.hid (T4.out.still hk6)
  have KK6 := Lib.hid hk6
  have KT4 := Lib.hid K3.out.1
  have HA := Lib.hid hA
  have HZ := Lib.hid hza
  obtain ⟨za, hz⟩ : ∃ za, w5.heap.size = za := ⟨_, rfl⟩
  obtain ⟨w6, hw6⟩ : ∃ w6, w5.alloc (.cells #[.int .i64 4, .int .i64 3] 37) = w6 := ⟨_, rfl⟩
  rw [hz] at HZ HA ⊢
  rw [hw6] at HA T6 KK6 ⊢
  clear hw6 hz hA hk6 hza hk5 K3 T4
  go_upto_region 6 with (go_at_call 23; refine (T6.out.span (by decide) kspan.1).mono ?_; rintro e w7 ⟨⟨v, T, rfl, hT, ho⟩, hk7⟩)
  have hKW : KW w W4 w.heap.size za v k3 w7 := by
    rw [kspan.2 T hT] at ho
    exact ⟨T6.out.still hk7, (KT4.out.trans KK6.out fun _ _ h => h).trans hk7 fun _ _ h => h, hk7.blk (fun h => h) HA.out, HZ.out, owns_slAt ho, fun b hb => Nat.le_trans KK6.out.size (owns_lt ho b hb).1, Nat.le_trans KK6.out.size hk7.size⟩
  have K := Lib.hid hKW
  clear hKW hT ho hk7 HA HZ T6 KK6 KT4
  go_upto_region 10 with (first
    | (go_at_call 20; refine (id_any _ _ _).mono ?_; rintro e w' ⟨rfl, hg⟩; have K := Lib.hid (K.out.still hg.kept); clear hg)
    | (go_at_call 24; refine K.out.del.mono ?_; rintro e w' ⟨rfl, ht⟩; have K := Lib.hid ht; clear ht)
    | (go_at_call 26; refine K.out.set.mono ?_; rintro e w' ⟨rfl, ht⟩; have K := Lib.hid ht; clear ht)
    | (go_at_call 25; refine K.out.find.mono ?_; rintro e w' ⟨rfl, ht⟩; have K := Lib.hid ht; clear ht)
    | (go_at_call 27; refine K.out.coll.mono ?_; rintro e w' ⟨rfl, ht⟩; have K := Lib.hid ht; clear ht))
  have c0 := K.out.a.cell' (i := 0) (v := .int .i64 4) rfl
  have c1 := K.out.a.cell' (i := 1) (v := .int .i64 3) rfl
  have K := Lib.hid (K.out.still ((Kept.refl _ _).drew))
  go_region_held3 (fun w' : World => w'.cell? ⟨za, 0, none⟩ = some (.int .i64 4) ∧ w'.cell? ⟨za, 1, none⟩ = some (.int .i64 3)) (first | exact ⟨K.out.a.cell' rfl, K.out.a.cell' rfl⟩ | go_keep) (first
    | (go_at_call 20; refine (id_any _ _ _).mono ?_; rintro e w'' ⟨rfl, hg⟩; have K := Lib.hid (K.out.still hg.kept); clear hg)
    | (go_at_call 28; refine K.out.runs.mono ?_; rintro e w' ⟨rfl, ht⟩; have K := Lib.hid ht; clear ht)
    | (go_at_call 21; refine K.out.text.mono ?_; rintro e w' ⟨rfl, ht⟩; have K := Lib.hid ht; clear ht)
    | (go_at_call 29; refine K.out.many.mono ?_; rintro e w' ⟨rfl, ht⟩; have K := Lib.hid ht; clear ht)
    | (go_at_call 30; refine K.out.len.mono ?_; rintro e w' ⟨rfl, ht⟩; have K := Lib.hid ht; clear ht))
  go_wp2
  go_ret
  exact ⟨rfl, K.out.kept⟩
end Go.Proofs.YtlafodnaifghcaaGreat.Tr
