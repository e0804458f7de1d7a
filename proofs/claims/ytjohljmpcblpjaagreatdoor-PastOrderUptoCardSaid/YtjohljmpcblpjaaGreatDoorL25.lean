/- roll.list. roll.Roll: who joined and who left. -/
import Derived.Test.YtjohljmpcblpjaaGreatDoorL12
import Derived.Test.YtjohljmpcblpjaaGreatDoorL24
namespace Go.Proofs.YtjohljmpcblpjaaGreatDoor.Pa
open Go.RowKit Go.Proofs.YtjohljmpcblpjaaGreatDoor.St Go.Proofs.YtjohljmpcblpjaaGreatDoor Go.Proofs.YtjohljmpcblpjaaGreatDoor.Tr Go.Shelf
attribute [local go_sem] Oper.semAt_some
def intsL (l : List Nat) : List Int := l.map fun k : Nat => (k : Int)
theorem rset_any (x : BitVec 32) (w : World) : Calls Tryz.prog 148 #[.int .u32 (x.toNat : Int)] w fun e w' => e = .returned (.func (.func 175) #[] #[.pointer (some ⟨w.heap.size, 0, none⟩)]) ∧ w' = w.alloc (.cells #[.int .u32 (x.toNat : Int)] 165) := by
  go_enter Tryz.func148, Tryz.ntmps148
  go_wp2
  go_ret
  exact ⟨rfl, rfl⟩
structure ListJ (w : World) (B z bx : Nat) (x : BitVec 32) (v : Value) (i : Nat) (X : Nat → Prop) (W : World) : Prop where
  box : Blk W z 45 #[v]
  row : W.ownsRow (B + 2) 3 1 v i (intE.flat (intsL ((bitsL x).take i)))
  far : ∀ b, v.ownBlock = some b → ¬ X b
  kept : Kept (fun _ => False) w W
  xs : ∀ b, X b → (b = bx ∨ B + 2 ≤ b) ∧ b < W.heap.size
  sz : B + 2 ≤ W.heap.size
structure ListA (w : World) (B z bx : Nat) : Prop where
  az : w.heap.size ≤ z ∧ z < B
  ab : w.heap.size ≤ bx ∧ bx < B
  ne : z ≠ bx
theorem ListJ.far_ {w W W' : World} {B z bx i : Nat} {x : BitVec 32} {v : Value} {X Y : Nat → Prop} (h : ListJ w B z bx x v i X W) (ha : ListA w B z bx) (hk : Kept Y W W') (hY : ∀ b, Y b → X b ∨ b = B ∨ b = B + 1) :
    ListJ w B z bx x v i X W' ∧ ListJ w B z bx x v i (fun b => X b ∨ (W.heap.size ≤ b ∧ b < W'.heap.size)) W' := by
  have hz := hk.size
  have hYz : ¬ Y z := fun hy => by
    have := ha.az
    have := ha.ne
    rcases hY z hy with h1 | h1 | h1
    · have := (h.xs z h1).1; omega
    · omega
    · omega
  have hYo : ∀ b, v.ownBlock = some b → ¬ Y b := fun b hb hy => by
    have h2 := (owns_lt h.row b hb).1
    rcases hY b hy with h1 | h1 | h1
    · exact h.far b hb h1
    · omega
    · omega
  have kw : Kept (fun _ => False) w W' := h.kept.trans hk fun b hb hy => by
    have := ha.az
    have := ha.ab
    rcases hY b hy with h1 | h1 | h1
    · have := (h.xs b h1).1; omega
    · omega
    · omega
  refine ⟨⟨hk.blk hYz h.box, owns_keep h.row hk hYo, h.far, kw, fun b hb => ?_, by have := h.sz; omega⟩, ⟨hk.blk hYz h.box, owns_keep h.row hk hYo, fun b hb h9 => ?_, kw, fun b hb => ?_, by have := h.sz; omega⟩⟩
  · have := h.xs b hb
    exact ⟨this.1, by omega⟩
  · have := (owns_lt h.row b hb).2
    rcases h9 with h9 | h9
    · exact h.far b hb h9
    · omega
  · rcases hb with hb | hb
    · have := h.xs b hb
      exact ⟨this.1, by omega⟩
    · have := h.sz
      exact ⟨.inr (by omega), hb.2⟩
theorem list_grown {W2 W3 w4 : World} {v v4 : Value} (hk : Kept (fun _ => False) W2 W3) (hg : Grow1 W3 w4 v v4) : Kept (fun b => v.ownBlock = some b) W2 w4 := by
  have hg2 : Kept (fun b => v.ownBlock = some b) W3 w4 := by
    rcases hg with ⟨_, h⟩ | ⟨_, h⟩
    · exact h
    · exact h.mono fun _ _ h => h.elim
  exact (hk.mono fun _ _ h => h.elim).trans hg2 fun _ _ h => h
theorem list_box {w W2 W3 w4 : World} {B z bx i : Nat} {x : BitVec 32} {v v4 : Value} {X : Nat → Prop} (h : ListJ w B z bx x v i X W2) (ha : ListA w B z bx) (hk : Kept (fun _ => False) W2 W3) (hg : Grow1 W3 w4 v v4) : Blk w4 z 45 #[v] :=
  (list_grown hk hg).blk (fun hb => by have := (owns_lt h.row z hb).1; have := ha.az; omega) h.box
theorem list_next {w W2 W3 w4 : World} {B z bx i k : Nat} {x : BitVec 32} {v v4 : Value} {X : Nat → Prop} (h : ListJ w B z bx x v i X W2) (ha : ListA w B z bx) (hk : Kept (fun _ => False) W2 W3) (hg : Grow1 W3 w4 v v4) (hx : (bitsL x)[i]? = some k) (hl : (intsL ((bitsL x).take i)).length = i)
    (ho : w4.ownsRow (B + 2) 3 1 v4 ((intsL ((bitsL x).take i)).length + 1) (intE.flat (intsL ((bitsL x).take i) ++ [(k : Int)]))) :
    (∀ b, X b ∨ b = B ∨ b = B + 1 → (w4.setCell ⟨z, 0, none⟩ v4).heap[b]? = W2.heap[b]?) ∧ W2.heap.size ≤ (w4.setCell ⟨z, 0, none⟩ v4).heap.size ∧ ListJ w B z bx x v4 (i + 1) X (w4.setCell ⟨z, 0, none⟩ v4) := by
  have hgr := list_grown hk hg
  have hbox := list_box h ha hk hg
  have kc := kept_cell w4 z v4
  have kk : Kept (fun b => b = z ∨ v.ownBlock = some b) W2 (w4.setCell ⟨z, 0, none⟩ v4) := (hgr.mono fun _ _ h => .inr h).trans kc fun _ _ h => .inl h
  have hlow : ∀ b, v.ownBlock = some b → B + 2 ≤ b := fun b hb => (owns_lt h.row b hb).1
  have ho2 := owns_keep ho kc fun b hb e => by have h1 := (owns_lt ho b hb).1; have := ha.az; omega
  have hsz := kk.size
  refine ⟨fun b hb => kk.block b ?_ ?_, hsz, ⟨hbox.set_ 0 v4, ?_, fun b hb hXb => ?_, h.kept.trans kk fun b hlt hb => ?_, fun b hb => ?_, by have := h.sz; omega⟩⟩
  · have := h.sz
    rcases hb with hb | rfl | rfl
    · exact (h.xs b hb).2
    · omega
    · omega
  · have := ha.az
    rintro (rfl | h9)
    · rcases hb with hb | hb | hb
      · have := (h.xs b hb).1; have := ha.ne; omega
      · omega
      · omega
    · rcases hb with hb | hb | hb
      · exact h.far b h9 hb
      · have := hlow b h9; omega
      · have := hlow b h9; omega
  · rw [hl] at ho2
    have e1 : intsL ((bitsL x).take (i + 1)) = intsL ((bitsL x).take i) ++ [(k : Int)] := by unfold intsL; rw [List.take_add_one, hx, List.map_append]; rfl
    rw [e1]
    exact ho2
  · rcases hg with ⟨h1, _⟩ | ⟨h1, _⟩
    · rw [h1] at hb; exact h.far b hb hXb
    · rw [h1] at hb
      injection hb with hb
      have := (h.xs b hXb).2
      have := hk.size
      omega
  · have := ha.az
    rcases hb with rfl | hb
    · omega
    · have := hlow b hb; omega
  · have := h.xs b hb
    exact ⟨this.1, by omega⟩
set_option maxRecDepth 100000 in
set_option maxHeartbeats 1000000 in
theorem rlist_any {w : World} (hT : TabAt w) {x : BitVec 32} (hf : Few x) :
    Calls Tryz.prog 108 #[u32V x] w fun e w' => (∃ v, e = .returned v ∧ SlAt intE w' v (intsL (bitsL x))) ∧ Kept (fun _ => False) w w' := by
  refine (callsIn_wide (n := 6)).1 ?_
  unfold u32V
  refine callsIn_of_wp_marks Tryz.func108 rfl trivial ?_ rfl
  simp only [Tryz.ntmps108, List.size_toArray, List.length_cons, List.length_nil, Nat.reduceAdd, Nat.reduceSub, Array.replicate_succ, Array.replicate_zero, List.push_toArray, List.append_toArray, List.nil_append, List.cons_append]
  gi_wp2_with (refine ⟨trivial, ?_⟩; gi_at_call 148; refine (callsIn_wide.2 (rset_any x _)).mono ?_; rintro e w1 ⟨rfl, hw1⟩)
  subst hw1
  obtain ⟨z, hz⟩ : ∃ z, w.heap.size = z := ⟨_, rfl⟩
  have kw : Kept (fun _ => False) w ((w.alloc (.cells #[.slice none 0 0] 45)).alloc (.cells #[.int .u32 (x.toNat : Int)] 165)) := ((Kept.refl _ _).alloc _).alloc _
  have b0 : Blk ((w.alloc (.cells #[.slice none 0 0] 45)).alloc (.cells #[.int .u32 (x.toNat : Int)] 165)) w.heap.size 45 #[.slice none 0 0] := (Blk.new _ _ _).alloc _
  have b1 : Blk ((w.alloc (.cells #[.slice none 0 0] 45)).alloc (.cells #[.int .u32 (x.toNat : Int)] 165)) (w.heap.size + 1) 165 #[u32V x] := by have h9 := Blk.new (w.alloc (.cells #[.slice none 0 0] 45)) 165 #[u32V x]; simp only [World.size_alloc] at h9; exact h9
  have hs : ((w.alloc (.cells #[.slice none 0 0] 45)).alloc (.cells #[.int .u32 (x.toNat : Int)] 165)).heap.size = w.heap.size + 2 := by simp
  obtain ⟨W0, hW0⟩ : ∃ W0, (w.alloc (.cells #[.slice none 0 0] 45)).alloc (.cells #[.int .u32 (x.toNat : Int)] 165) = W0 := ⟨_, rfl⟩
  rw [hW0] at kw b0 b1 hs ⊢
  rw [hz] at b0 b1 hs ⊢
  have HA : ListA w (z + 2) z (z + 1) := ⟨⟨by omega, by omega⟩, ⟨by omega, by omega⟩, by omega⟩
  have HHA := Lib.hid HA
  have HT := Lib.hid hT
  have KW := Lib.hid kw
  have B0 := Lib.hid b0
  have B1 := Lib.hid b1
  have HS := Lib.hid hs
  clear hW0 kw b0 b1 HA hT hs
  refine wpIn_iterS rfl (by decide) (gf := 175) (lb := #[.pointer (some ⟨z + 1, 0, none⟩)]) rfl trivial (enters_of Tryz.func175 (by kernel_rfl) rfl) (set1_iter (bx := z + 1) hf (by decide)) (· = z + 1) (fun _ _ => rfl) (z + 2) HS.out (fun b hb => by omega) (fun o1 o2 => ⟨rfl, (B1.out.alloc o1).alloc o2⟩) (fun i X W => ∃ v, ListJ w (z + 2) z (z + 1) x v i X W) (fun _ _ _ => False) ?hrd ?hgr ?hgx ?hob ?hox ?h0 ?hxl ?hround ?hdone ?hstop
  case hrd => exact fun i X W ⟨v, hJ⟩ => HT.out.kept hJ.kept
  case hgr => exact fun i X W W' ⟨v, hJ⟩ hk => ⟨v, (hJ.far_ HHA.out hk fun _ h => .inl h).2⟩
  case hgx => exact fun c X W W' h _ => h
  case hob => exact fun i X W o' ⟨v, hJ⟩ => ⟨v, (hJ.far_ HHA.out (kept_put W (z + 2 + 1) o') fun b h => .inr (.inr h)).1⟩
  case hox => exact fun c X W o' h => h
  case hxl => exact fun i X W ⟨v, hJ⟩ b hb => (hJ.xs b hb).2
  case hstop => exact fun c X W h _ => h.elim
  case h0 =>
    intro o1 o2
    have hs4 : ((W0.alloc o1).alloc o2).heap.size = z + 4 := by have := HS.out; simp; omega
    exact ⟨_, (B0.out.alloc o1).alloc o2, World.ownsRow_nil .., fun b hb => (by cases hb), (KW.out.alloc o1).alloc o2, fun b hb => ⟨.inl hb, by omega⟩, by omega⟩
  case hdone =>
    intro X W ⟨v, hJ⟩ hK
    have c0 : W.cell? ⟨z, 0, none⟩ = some v := hJ.box.cell' (i := 0) rfl
    have kp := kept_put W (z + 2) (.deferred none)
    have hr := hJ.row
    rw [List.take_length] at hr
    have FIN : Hid (SlAt intE (W.putObj (z + 2) (.deferred none)) v (intsL (bitsL x)) ∧ Kept (fun _ => False) w (W.putObj (z + 2) (.deferred none))) := Lib.hid ⟨owns_slAt (E := intE) (owns_keep hr kp fun b hb e => by have := (owns_lt hr b hb).1; omega), hJ.kept.trans kp fun i hi h => by omega⟩
    clear hJ kp hr
    gi_wp2
    exact ret_range hK (results_tmp rfl _ _ _) ⟨⟨v, rfl, FIN.out.1⟩, FIN.out.2⟩
  case hround =>
    intro i X W hi hsz ⟨v, hJ⟩
    obtain ⟨k, hk⟩ : ∃ k, (bitsL x)[i]? = some k := ⟨_, List.getElem?_eq_getElem hi⟩
    rw [bitEnc_some hk]
    gi_wp2
    refine ⟨Kept.refl _ _, fun o' => ?_⟩
    have hJ2 := (hJ.far_ HHA.out (kept_put W (z + 2 + 1) o') fun b h => .inr (.inr h)).1
    obtain ⟨W2, hW2⟩ : ∃ W2, W.putObj (z + 2 + 1) o' = W2 := ⟨_, rfl⟩
    rw [hW2] at hJ2 ⊢
    have c0 : W2.cell? ⟨z, 0, none⟩ = some v := hJ2.box.cell' (i := 0) rfl
    have k3 : Kept (fun _ => False) W2 (W2.alloc (.cells #[.int .i64 (k : Int)] 3)) := (Kept.refl _ _).alloc _
    have LIT := Lib.hid (SlAt.lit (E := intE) (w := W2) (t := 3) [(k : Int)] #[.int .i64 (k : Int)] rfl (by show 1 ≤ maxLen; decide))
    have hlen : (intsL ((bitsL x).take i)).length = i := by unfold intsL; rw [List.length_map, List.length_take]; omega
    have h17 : (bitsL x).length ≤ 17 := by
      have h9 : ((List.range 17).filter fun i => x.getLsbD i).length ≤ (List.range 17).length := List.length_filter_le _ _
      rw [List.length_range] at h9
      exact h9
    have OX : Hid ((W2.alloc (.cells #[.int .i64 (k : Int)] 3)).ownsRow (z + 2 + 2) 3 1 v (intsL ((bitsL x).take i)).length (intE.flat (intsL ((bitsL x).take i)))) := Lib.hid (by rw [hlen]; exact owns_keep hJ2.row k3 fun _ _ h => h)
    have ML : Hid ((intsL ((bitsL x).take i)).length ≤ 1000000) := Lib.hid (by omega)
    have HB3 : Hid (z + 2 + 2 ≤ (W2.alloc (.cells #[.int .i64 (k : Int)] 3)).heap.size) := Lib.hid (by have := hJ2.sz; have := k3.size; omega)
    have f0 : W2.frozen? ⟨z, 0, none⟩ = false := hJ2.box.frozen 0
    have HJ2 := Lib.hid hJ2
    have HK3 := Lib.hid k3
    have HLE := Lib.hid hlen
    have HKK := Lib.hid hk
    clear hJ hJ2 hW2 k3 hk h17 hlen
    gi_wp2_with (gi_at_builtin; (refine wpListIn_append_keeps intE rfl (.tmp 8) (.tmp 10) 45 rfl (z + 2 + 2) 3 (.int .i64 0) 8 Tryz.underlying45 info_i rfl (by decide) rfl rfl OX.out LIT.out ML.out HB3.out ?_); (intro v4 w4 ho4 hg4; have NX := Lib.hid (list_next HJ2.out HHA.out HK3.out hg4 HKK.out HLE.out ho4); obtain ⟨a4, d4, rfl⟩ := owns_sl ho4; have q4 : w4.cell? ⟨z, 0, none⟩ = some v := (list_box HJ2.out HHA.out HK3.out hg4).cell' (i := 0) rfl; have fz4 := (list_box HJ2.out HHA.out HK3.out hg4).frozen 0))
    exact ⟨NX.out.1, NX.out.2.1, _, NX.out.2.2⟩
end Go.Proofs.YtjohljmpcblpjaaGreatDoor.Pa
namespace Go.Proofs.YtjohljmpcblpjaaGreatDoor.Pa
open Go.RowKit Go.Proofs.YtjohljmpcblpjaaGreatDoor.St Go.Proofs.YtjohljmpcblpjaaGreatDoor Go.Proofs.YtjohljmpcblpjaaGreatDoor.Tr
attribute [local go_sem] Oper.semAt_some
theorem rsite_any {n : Int} (h1 : 1 ≤ n) (h2 : n ≤ 16) (w : World) : Calls Tryz.prog 146 #[.int .i64 n] w fun e w' => e = .returned (.bool true) ∧ w' = w := by
  go_enter Tryz.func146, Tryz.ntmps146
  go_wp2
  go_ret
  exact ⟨rfl, rfl⟩
set_option maxRecDepth 100000 in
set_option maxHeartbeats 1000000 in
theorem rhas_any {w : World} {g : Nat} {j l : BitVec 32} {ep : Value} (hB : Blk w g 167 #[u32V j, u32V l, ep]) {n : Int} (h1 : 1 ≤ n) (h2 : n ≤ 16) :
    Calls Tryz.prog 147 #[.pointer (some ⟨g, 0, none⟩), .int .i64 n] w fun e w' => (∃ b, e = .returned (.bool b)) ∧ ∃ q, w' = w.drewN q := by
  have c0 : w.cell? ⟨g, 0, none⟩ = some (.int .u32 (j.toNat : Int)) := hB.cell' (i := 0) rfl
  have c1 : w.cell? ⟨g, 1, none⟩ = some (.int .u32 (l.toNat : Int)) := hB.cell' (i := 1) rfl
  have SI := Lib.hid (fun W => rsite_any h1 h2 W)
  have hn0 : ¬ n < 0 := by omega
  clear hB
  go_enter Tryz.func147, Tryz.ntmps147
  go_wp2
  go_region_held3 (fun W : World => W = w.drew) (first | rfl | assumption) (first | (go_at_call 146; refine (SI.out _).mono ?_; rintro e w' ⟨rfl, rfl⟩))
  go_wp2
  go_ret
  refine ⟨?_, 1, rfl⟩
  generalize (bits .and .u32 (bits .andNot .u32 (j.toNat : Int) (l.toNat : Int) / 2 ^ n.toNat) 1 == 1) = b
  cases b
  · left; rfl
  · right; rfl
set_option maxRecDepth 100000 in
set_option maxHeartbeats 1000000 in
theorem turnJ_any {w : World} {g : Nat} {j l : BitVec 32} {ep : Int} (hB : Blk w g 167 #[u32V j, u32V l, .int .i64 ep]) {n : Int} (h1 : 1 ≤ n) (h2 : n ≤ 16) :
    Calls Tryz.prog 107 #[.pointer (some ⟨g, 0, none⟩), .pointer (some ⟨g, 0, none⟩), .int .i64 n] w fun e w' => (∃ b, e = .returned (.bool b)) ∧ (∃ ep', Blk w' g 167 #[u32V (j ||| BitVec.twoPow 32 n.toNat), u32V l, .int .i64 ep']) ∧ Kept (· = g) w w' := by
  have SI := Lib.hid (fun W => rsite_any h1 h2 W)
  have HH := Lib.hid (fun (W : World) (j l : BitVec 32) (ep : Int) (h : Blk W g 167 #[u32V j, u32V l, .int .i64 ep]) => rhas_any h h1 h2)
  have HB := Lib.hid hB
  have hn0 : ¬ n < 0 := by omega
  have hsh : IntKind.u32.wrap (2 ^ n.toNat) = ((BitVec.twoPow 32 n.toNat).toNat : Int) := by have h9 := bit_u32 (n := n.toNat) (by omega); rw [Int.one_mul] at h9; exact h9
  have hor := or_u32 j (BitVec.twoPow 32 n.toNat)
  obtain ⟨bt, hbt⟩ : ∃ bt, BitVec.twoPow 32 n.toNat = bt := ⟨_, rfl⟩
  rw [hbt] at hsh hor ⊢
  obtain ⟨nj, hnj⟩ : ∃ nj, j ||| bt = nj := ⟨_, rfl⟩
  rw [hnj] at hor ⊢
  clear hB hbt hnj
  go_enter Tryz.func107, Tryz.ntmps107
  go_upto_region 4 with (first
    | (go_at_call 146; refine (SI.out _).mono ?_; rintro e w' ⟨rfl, rfl⟩)
    | (go_at_call 147; refine (HH.out _ _ _ _ HB.out).mono ?_; rintro e w2 ⟨⟨b1, rfl⟩, q2, hw2⟩))
  subst hw2
  obtain ⟨W3, hW3⟩ : ∃ W3, (w'.drewN q2).drew = W3 := ⟨_, rfl⟩
  have k3 : Kept (fun _ => False) w' W3 := by rw [← hW3]; exact ((Kept.refl _ _).drewN q2).drew
  have b3 := k3.blk (fun h => h) HB.out
  refine wp_region_held_drew (S := fun _ => True) (by kernel_rfl) trivial (fun hHeld => ?_)
  rw [hW3]
  have c0 : W3.cell? ⟨g, 0, none⟩ = some (.int .u32 (j.toNat : Int)) := b3.cell' (i := 0) rfl
  have f0 := b3.frozen 0
  have B3 := Lib.hid b3
  have K3 := Lib.hid k3
  clear hW3 k3 b3
  refine takeH (i := 0) (d := (some 14)) (v := ?_) rfl rfl (by kernel_rfl) (by kernel_rfl) (by kernel_rfl) (fun _ _ _ h => h) (Or.inl ⟨by rfl, ?_⟩) (by assumption) ?_
  rotate_left 1
  focus (intro w hSw; clear hSw; go_simp; first | done | with_reducible rfl)
  try simp only [Act.put, List.setIfInBounds_toArray, List.set_cons_zero, List.set_cons_succ]
  refine takeH (i := 1) (d := (some 15)) (v := ?_) rfl rfl (by kernel_rfl) (by kernel_rfl) (by kernel_rfl) (fun _ _ _ h => h) (Or.inl ⟨by rfl, ?_⟩) (by assumption) ?_
  rotate_left 1
  focus (intro w hSw; clear hSw; go_simp; first | done | with_reducible rfl)
  try simp only [Act.put, List.setIfInBounds_toArray, List.set_cons_zero, List.set_cons_succ]
  refine takeH (i := 3) (d := (some 17)) (v := ?_) rfl rfl (by kernel_rfl) (by kernel_rfl) (by kernel_rfl) (fun _ _ _ h => h) (Or.inl ⟨by rfl, ?_⟩) (by assumption) ?_
  rotate_left 1
  focus (intro w hSw; clear hSw; go_simp; first | done | with_reducible rfl)
  try simp only [Act.put, List.setIfInBounds_toArray, List.set_cons_zero, List.set_cons_succ]
  refine takeH (i := 4) (d := (some 18)) (v := ?_) rfl rfl (by kernel_rfl) (by kernel_rfl) (by kernel_rfl) (fun _ _ _ h => h) (Or.inl ⟨by rfl, ?_⟩) (by assumption) ?_
  rotate_left 1
  focus (intro w hSw; clear hSw; go_simp; first | done | with_reducible rfl)
  try simp only [Act.put, List.setIfInBounds_toArray, List.set_cons_zero, List.set_cons_succ]
  refine wpAnyH_one (i := 2) (by kernel_rfl) ?_
  refine StepH.alloc (d := (some 16)) (v := ?_) (w' := ?_) rfl rfl (by rfl) ?_ ?_ ?_
  rotate_left 2
  focus (go_simp; first | done | with_reducible rfl | ((repeat' apply And.intro) <;> with_reducible rfl))
  focus (trivial)
  intro hHeld
  try simp only [Act.put, List.setIfInBounds_toArray, List.set_cons_zero, List.set_cons_succ]
  refine takeH (i := 5) (d := (some 19)) (v := ?_) rfl rfl (by kernel_rfl) (by kernel_rfl) (by kernel_rfl) (fun _ _ _ h => h) (Or.inl ⟨by rfl, ?_⟩) (by assumption) ?_
  rotate_left 1
  focus (intro w hSw; clear hSw; go_simp; first | done | with_reducible rfl)
  try simp only [Act.put, List.setIfInBounds_toArray, List.set_cons_zero, List.set_cons_succ]
  refine takeH (i := 6) (d := (some 20)) (v := ?_) rfl rfl (by kernel_rfl) (by kernel_rfl) (by kernel_rfl) (fun _ _ _ h => h) (Or.inl ⟨by rfl, ?_⟩) (by assumption) ?_
  rotate_left 1
  focus (intro w hSw; clear hSw; go_simp; first | done | with_reducible rfl)
  try simp only [Act.put, List.setIfInBounds_toArray, List.set_cons_zero, List.set_cons_succ]
  refine wpAnyH_one (i := 7) (by kernel_rfl) ?_
  refine StepH.skip (d := none) (w' := ?_) rfl rfl (by rfl) ?_ ?_ ?_
  rotate_left 1
  focus (go_simp; first | done | with_reducible rfl | ((repeat' apply And.intro) <;> with_reducible rfl))
  focus (trivial)
  intro hHeld
  try simp only [Act.put]
  refine wpAnyH_done (by kernel_rfl) ?_ _
  have b4 : Blk (W3.setCell ⟨g, 0, none⟩ (.int .u32 (nj.toNat : Int))) g 167 #[u32V nj, u32V l, .int .i64 ep] := B3.out.set_ 0 _
  have k4 : Kept (· = g) W3 (W3.setCell ⟨g, 0, none⟩ (.int .u32 (nj.toNat : Int))) := (Kept.refl (· = g) W3).setCell (p := ⟨g, 0, none⟩) (fun _ => rfl) _
  obtain ⟨W4, hW4⟩ : ∃ W4, W3.setCell ⟨g, 0, none⟩ (.int .u32 (nj.toNat : Int)) = W4 := ⟨_, rfl⟩
  rw [hW4] at b4 k4 ⊢
  have B4 := Lib.hid b4
  have K4 := Lib.hid ((K3.out.mono (S' := (· = g)) fun _ _ h => h.elim).trans k4 fun _ _ h => h)
  clear hW4 b4 k4 c0 f0 hHeld hor hsh
  go_upto_region 7 with (go_at_call 147; refine (HH.out _ _ _ _ B4.out).mono ?_; rintro e w5 ⟨⟨b2, rfl⟩, q5, hw5⟩)
  all_goals
    subst hw5
    have b6 := B4.out.drewN q5
    have k6 : Kept (fun _ => False) W4 (W4.drewN q5) := (Kept.refl _ _).drewN q5
    obtain ⟨W6, hW6⟩ : ∃ W6, W4.drewN q5 = W6 := ⟨_, rfl⟩
    rw [hW6] at b6 k6 ⊢
    have c2 : W6.cell? ⟨g, 2, none⟩ = some (.int .i64 ep) := b6.cell' (i := 2) rfl
    have f2 := b6.frozen 2
    have B6 := Lib.hid b6
    have K6 := Lib.hid (K4.out.trans k6 fun _ _ h => h.elim)
    clear hW6 b6 k6
  · go_ret
    exact ⟨⟨_, rfl⟩, ⟨ep, B6.out⟩, K6.out⟩
  · go_wp2
    go_ret
    exact ⟨⟨_, rfl⟩, ⟨_, B6.out.set_ 2 _⟩, K6.out.trans ((Kept.refl (· = g) W6).setCell (p := ⟨g, 2, none⟩) (fun _ => rfl) _) fun _ _ h => h⟩
set_option maxRecDepth 100000 in
set_option maxHeartbeats 1000000 in
theorem turnL_any {w : World} {g : Nat} {j l : BitVec 32} {ep : Int} (hB : Blk w g 167 #[u32V j, u32V l, .int .i64 ep]) {n : Int} (h1 : 1 ≤ n) (h2 : n ≤ 16) :
    Calls Tryz.prog 107 #[.pointer (some ⟨g, 0, none⟩), .pointer (some ⟨g, 1, none⟩), .int .i64 n] w fun e w' => (∃ b, e = .returned (.bool b)) ∧ (∃ ep', Blk w' g 167 #[u32V j, u32V (l ||| BitVec.twoPow 32 n.toNat), .int .i64 ep']) ∧ Kept (· = g) w w' := by
  have SI := Lib.hid (fun W => rsite_any h1 h2 W)
  have HH := Lib.hid (fun (W : World) (j l : BitVec 32) (ep : Int) (h : Blk W g 167 #[u32V j, u32V l, .int .i64 ep]) => rhas_any h h1 h2)
  have HB := Lib.hid hB
  have hn0 : ¬ n < 0 := by omega
  have hsh : IntKind.u32.wrap (2 ^ n.toNat) = ((BitVec.twoPow 32 n.toNat).toNat : Int) := by have h9 := bit_u32 (n := n.toNat) (by omega); rw [Int.one_mul] at h9; exact h9
  have hor := or_u32 l (BitVec.twoPow 32 n.toNat)
  obtain ⟨bt, hbt⟩ : ∃ bt, BitVec.twoPow 32 n.toNat = bt := ⟨_, rfl⟩
  rw [hbt] at hsh hor ⊢
  obtain ⟨nj, hnj⟩ : ∃ nj, l ||| bt = nj := ⟨_, rfl⟩
  rw [hnj] at hor ⊢
  clear hB hbt hnj
  go_enter Tryz.func107, Tryz.ntmps107
  go_upto_region 4 with (first
    | (go_at_call 146; refine (SI.out _).mono ?_; rintro e w' ⟨rfl, rfl⟩)
    | (go_at_call 147; refine (HH.out _ _ _ _ HB.out).mono ?_; rintro e w2 ⟨⟨b1, rfl⟩, q2, hw2⟩))
  subst hw2
  obtain ⟨W3, hW3⟩ : ∃ W3, (w'.drewN q2).drew = W3 := ⟨_, rfl⟩
  have k3 : Kept (fun _ => False) w' W3 := by rw [← hW3]; exact ((Kept.refl _ _).drewN q2).drew
  have b3 := k3.blk (fun h => h) HB.out
  refine wp_region_held_drew (S := fun _ => True) (by kernel_rfl) trivial (fun hHeld => ?_)
  rw [hW3]
  have c0 : W3.cell? ⟨g, 1, none⟩ = some (.int .u32 (l.toNat : Int)) := b3.cell' (i := 1) rfl
  have f0 := b3.frozen 1
  have B3 := Lib.hid b3
  have K3 := Lib.hid k3
  clear hW3 k3 b3
  refine takeH (i := 0) (d := (some 14)) (v := ?_) rfl rfl (by kernel_rfl) (by kernel_rfl) (by kernel_rfl) (fun _ _ _ h => h) (Or.inl ⟨by rfl, ?_⟩) (by assumption) ?_
  rotate_left 1
  focus (intro w hSw; clear hSw; go_simp; first | done | with_reducible rfl)
  try simp only [Act.put, List.setIfInBounds_toArray, List.set_cons_zero, List.set_cons_succ]
  refine takeH (i := 1) (d := (some 15)) (v := ?_) rfl rfl (by kernel_rfl) (by kernel_rfl) (by kernel_rfl) (fun _ _ _ h => h) (Or.inl ⟨by rfl, ?_⟩) (by assumption) ?_
  rotate_left 1
  focus (intro w hSw; clear hSw; go_simp; first | done | with_reducible rfl)
  try simp only [Act.put, List.setIfInBounds_toArray, List.set_cons_zero, List.set_cons_succ]
  refine takeH (i := 3) (d := (some 17)) (v := ?_) rfl rfl (by kernel_rfl) (by kernel_rfl) (by kernel_rfl) (fun _ _ _ h => h) (Or.inl ⟨by rfl, ?_⟩) (by assumption) ?_
  rotate_left 1
  focus (intro w hSw; clear hSw; go_simp; first | done | with_reducible rfl)
  try simp only [Act.put, List.setIfInBounds_toArray, List.set_cons_zero, List.set_cons_succ]
  refine takeH (i := 4) (d := (some 18)) (v := ?_) rfl rfl (by kernel_rfl) (by kernel_rfl) (by kernel_rfl) (fun _ _ _ h => h) (Or.inl ⟨by rfl, ?_⟩) (by assumption) ?_
  rotate_left 1
  focus (intro w hSw; clear hSw; go_simp; first | done | with_reducible rfl)
  try simp only [Act.put, List.setIfInBounds_toArray, List.set_cons_zero, List.set_cons_succ]
  refine wpAnyH_one (i := 2) (by kernel_rfl) ?_
  refine StepH.alloc (d := (some 16)) (v := ?_) (w' := ?_) rfl rfl (by rfl) ?_ ?_ ?_
  rotate_left 2
  focus (go_simp; first | done | with_reducible rfl | ((repeat' apply And.intro) <;> with_reducible rfl))
  focus (trivial)
  intro hHeld
  try simp only [Act.put, List.setIfInBounds_toArray, List.set_cons_zero, List.set_cons_succ]
  refine takeH (i := 5) (d := (some 19)) (v := ?_) rfl rfl (by kernel_rfl) (by kernel_rfl) (by kernel_rfl) (fun _ _ _ h => h) (Or.inl ⟨by rfl, ?_⟩) (by assumption) ?_
  rotate_left 1
  focus (intro w hSw; clear hSw; go_simp; first | done | with_reducible rfl)
  try simp only [Act.put, List.setIfInBounds_toArray, List.set_cons_zero, List.set_cons_succ]
  refine takeH (i := 6) (d := (some 20)) (v := ?_) rfl rfl (by kernel_rfl) (by kernel_rfl) (by kernel_rfl) (fun _ _ _ h => h) (Or.inl ⟨by rfl, ?_⟩) (by assumption) ?_
  rotate_left 1
  focus (intro w hSw; clear hSw; go_simp; first | done | with_reducible rfl)
  try simp only [Act.put, List.setIfInBounds_toArray, List.set_cons_zero, List.set_cons_succ]
  refine wpAnyH_one (i := 7) (by kernel_rfl) ?_
  refine StepH.skip (d := none) (w' := ?_) rfl rfl (by rfl) ?_ ?_ ?_
  rotate_left 1
  focus (go_simp; first | done | with_reducible rfl | ((repeat' apply And.intro) <;> with_reducible rfl))
  focus (trivial)
  intro hHeld
  try simp only [Act.put]
  refine wpAnyH_done (by kernel_rfl) ?_ _
  have b4 : Blk (W3.setCell ⟨g, 1, none⟩ (.int .u32 (nj.toNat : Int))) g 167 #[u32V j, u32V nj, .int .i64 ep] := B3.out.set_ 1 _
  have k4 : Kept (· = g) W3 (W3.setCell ⟨g, 1, none⟩ (.int .u32 (nj.toNat : Int))) := (Kept.refl (· = g) W3).setCell (p := ⟨g, 1, none⟩) (fun _ => rfl) _
  obtain ⟨W4, hW4⟩ : ∃ W4, W3.setCell ⟨g, 1, none⟩ (.int .u32 (nj.toNat : Int)) = W4 := ⟨_, rfl⟩
  rw [hW4] at b4 k4 ⊢
  have B4 := Lib.hid b4
  have K4 := Lib.hid ((K3.out.mono (S' := (· = g)) fun _ _ h => h.elim).trans k4 fun _ _ h => h)
  clear hW4 b4 k4 c0 f0 hHeld hor hsh
  go_upto_region 7 with (go_at_call 147; refine (HH.out _ _ _ _ B4.out).mono ?_; rintro e w5 ⟨⟨b2, rfl⟩, q5, hw5⟩)
  all_goals
    subst hw5
    have b6 := B4.out.drewN q5
    have k6 : Kept (fun _ => False) W4 (W4.drewN q5) := (Kept.refl _ _).drewN q5
    obtain ⟨W6, hW6⟩ : ∃ W6, W4.drewN q5 = W6 := ⟨_, rfl⟩
    rw [hW6] at b6 k6 ⊢
    have c2 : W6.cell? ⟨g, 2, none⟩ = some (.int .i64 ep) := b6.cell' (i := 2) rfl
    have f2 := b6.frozen 2
    have B6 := Lib.hid b6
    have K6 := Lib.hid (K4.out.trans k6 fun _ _ h => h.elim)
    clear hW6 b6 k6
  · go_ret
    exact ⟨⟨_, rfl⟩, ⟨ep, B6.out⟩, K6.out⟩
  · go_wp2
    go_ret
    exact ⟨⟨_, rfl⟩, ⟨_, B6.out.set_ 2 _⟩, K6.out.trans ((Kept.refl (· = g) W6).setCell (p := ⟨g, 2, none⟩) (fun _ => rfl) _) fun _ _ h => h⟩
theorem rjoin_any {w : World} {g : Nat} {j l : BitVec 32} {ep : Int} (hB : Blk w g 167 #[u32V j, u32V l, .int .i64 ep]) {n : Int} (h1 : 1 ≤ n) (h2 : n ≤ 16) :
    Calls Tryz.prog 60 #[.pointer (some ⟨g, 0, none⟩), .int .i64 n] w fun e w' => (∃ b, e = .returned (.bool b)) ∧ (∃ ep', Blk w' g 167 #[u32V (j ||| BitVec.twoPow 32 n.toNat), u32V l, .int .i64 ep']) ∧ Kept (· = g) w w' := by
  have T := Lib.hid (turnJ_any hB h1 h2)
  clear hB
  go_enter Tryz.func60, Tryz.ntmps60
  go_wp2_with (go_at_call 107; refine T.out.mono ?_; rintro e w2 ⟨⟨b, rfl⟩, h3, h4⟩)
  go_ret
  exact ⟨⟨_, rfl⟩, h3, h4⟩
theorem rleave_any {w : World} {g : Nat} {j l : BitVec 32} {ep : Int} (hB : Blk w g 167 #[u32V j, u32V l, .int .i64 ep]) {n : Int} (h1 : 1 ≤ n) (h2 : n ≤ 16) :
    Calls Tryz.prog 61 #[.pointer (some ⟨g, 0, none⟩), .int .i64 n] w fun e w' => (∃ b, e = .returned (.bool b)) ∧ (∃ ep', Blk w' g 167 #[u32V j, u32V (l ||| BitVec.twoPow 32 n.toNat), .int .i64 ep']) ∧ Kept (· = g) w w' := by
  have T := Lib.hid (turnL_any hB h1 h2)
  clear hB
  go_enter Tryz.func61, Tryz.ntmps61
  go_wp2_with (go_at_call 107; refine T.out.mono ?_; rintro e w2 ⟨⟨b, rfl⟩, h3, h4⟩)
  go_ret
  exact ⟨⟨_, rfl⟩, h3, h4⟩
set_option maxRecDepth 100000 in
set_option maxHeartbeats 1000000 in
theorem rmembers_any {w : World} (hT : TabAt w) {g : Nat} {j l : BitVec 32} {ep : Value} (hB : Blk w g 167 #[u32V j, u32V l, ep]) (hf : Few (j &&& ~~~l)) :
    Calls Tryz.prog 62 #[.pointer (some ⟨g, 0, none⟩)] w fun e w' => (∃ v, e = .returned v ∧ SlAt intE w' v (intsL (bitsL (j &&& ~~~l)))) ∧ Kept (fun _ => False) w w' := by
  have c0 : w.cell? ⟨g, 0, none⟩ = some (.int .u32 (j.toNat : Int)) := hB.cell' (i := 0) rfl
  have c1 : w.cell? ⟨g, 1, none⟩ = some (.int .u32 (l.toNat : Int)) := hB.cell' (i := 1) rfl
  have han := andNot_u32 j l
  obtain ⟨m, hm⟩ : ∃ m, j &&& ~~~l = m := ⟨_, rfl⟩
  rw [hm] at han hf ⊢
  have LI := Lib.hid (fun W (hk : Kept (fun _ => False) w W) => rlist_any (hT.kept hk) hf)
  unfold u32V at LI
  clear hB hm hT
  go_enter Tryz.func62, Tryz.ntmps62
  go_upto_region 3 with fail
  have C0 : Hid (∀ W, Kept (fun _ => False) w W → W.cell? ⟨g, 0, none⟩ = some (.int .u32 (j.toNat : Int))) := Lib.hid fun W hk => hk.cell c0
  have C1 : Hid (∀ W, Kept (fun _ => False) w W → W.cell? ⟨g, 1, none⟩ = some (.int .u32 (l.toNat : Int))) := Lib.hid fun W hk => hk.cell c1
  have hS : Kept (fun _ => False) w w.drew := (Kept.refl _ _).drew
  clear c0 c1
  refine wp_region_held_drew (S := fun W => Kept (fun _ => False) w W) (by kernel_rfl) hS (fun hHeld => ?_)
  refine takeH (i := 0) (d := (some 5)) (v := ?_) rfl rfl (by kernel_rfl) (by kernel_rfl) (by kernel_rfl) (fun _ _ _ h => h) (Or.inl ⟨by rfl, ?_⟩) (by assumption) ?_
  rotate_left 1
  focus (intro w hSw; clear hSw; go_simp; first | done | with_reducible rfl)
  try simp only [Act.put, List.setIfInBounds_toArray, List.set_cons_zero, List.set_cons_succ]
  refine takeH (i := 1) (d := (some 6)) (v := ?_) rfl rfl (by kernel_rfl) (by kernel_rfl) (by kernel_rfl) (fun _ _ _ h => h) (Or.inl ⟨by rfl, ?_⟩) (by assumption) ?_
  rotate_left 1
  focus (intro w hSw; clear hSw; go_simp; first | done | with_reducible rfl)
  try simp only [Act.put, List.setIfInBounds_toArray, List.set_cons_zero, List.set_cons_succ]
  refine takeH (i := 2) (d := (some 7)) (v := ?_) rfl rfl (by kernel_rfl) (by kernel_rfl) (by kernel_rfl) (fun _ _ _ h => h) (Or.inl ⟨by rfl, ?_⟩) (by assumption) ?_
  rotate_left 1
  focus (intro w hSw; clear hSw; go_simp; first | done | with_reducible rfl)
  try simp only [Act.put, List.setIfInBounds_toArray, List.set_cons_zero, List.set_cons_succ]
  refine takeH (i := 3) (d := (some 8)) (v := ?_) rfl rfl (by kernel_rfl) (by kernel_rfl) (by kernel_rfl) (fun _ _ _ h => h) (Or.inl ⟨by rfl, ?_⟩) (by assumption) ?_
  rotate_left 1
  focus (intro w hSw; have h9 := C0.out w hSw; clear hSw; go_simp; first | done | with_reducible rfl)
  try simp only [Act.put, List.setIfInBounds_toArray, List.set_cons_zero, List.set_cons_succ]
  refine takeH (i := 4) (d := (some 9)) (v := ?_) rfl rfl (by kernel_rfl) (by kernel_rfl) (by kernel_rfl) (fun _ _ _ h => h) (Or.inl ⟨by rfl, ?_⟩) (by assumption) ?_
  rotate_left 1
  focus (intro w hSw; clear hSw; go_simp; first | done | with_reducible rfl)
  try simp only [Act.put, List.setIfInBounds_toArray, List.set_cons_zero, List.set_cons_succ]
  refine takeH (i := 5) (d := (some 10)) (v := ?_) rfl rfl (by kernel_rfl) (by kernel_rfl) (by kernel_rfl) (fun _ _ _ h => h) (Or.inl ⟨by rfl, ?_⟩) (by assumption) ?_
  rotate_left 1
  focus (intro w hSw; clear hSw; go_simp; first | done | with_reducible rfl)
  try simp only [Act.put, List.setIfInBounds_toArray, List.set_cons_zero, List.set_cons_succ]
  refine takeH (i := 6) (d := (some 11)) (v := ?_) rfl rfl (by kernel_rfl) (by kernel_rfl) (by kernel_rfl) (fun _ _ _ h => h) (Or.inl ⟨by rfl, ?_⟩) (by assumption) ?_
  rotate_left 1
  focus (intro w hSw; clear hSw; go_simp; first | done | with_reducible rfl)
  try simp only [Act.put, List.setIfInBounds_toArray, List.set_cons_zero, List.set_cons_succ]
  refine takeH (i := 7) (d := (some 12)) (v := ?_) rfl rfl (by kernel_rfl) (by kernel_rfl) (by kernel_rfl) (fun _ _ _ h => h) (Or.inl ⟨by rfl, ?_⟩) (by assumption) ?_
  rotate_left 1
  focus (intro w hSw; have h9 := C1.out w hSw; clear hSw; go_simp; first | done | with_reducible rfl)
  try simp only [Act.put, List.setIfInBounds_toArray, List.set_cons_zero, List.set_cons_succ]
  refine takeH (i := 8) (d := (some 13)) (v := ?_) rfl rfl (by kernel_rfl) (by kernel_rfl) (by kernel_rfl) (fun _ _ _ h => h) (Or.inl ⟨by rfl, ?_⟩) (by assumption) ?_
  rotate_left 1
  focus (intro w hSw; clear hSw; go_simp; first | done | with_reducible rfl)
  try simp only [Act.put, List.setIfInBounds_toArray, List.set_cons_zero, List.set_cons_succ]
  refine wpAnyH_one (i := 9) (by kernel_rfl) ?_
  refine StepH.call (d := (some 14)) (f := ?_) (args := ?_) (w' := ?_) rfl rfl (by rfl) ?_ ?_
  rotate_left 3
  focus (go_simp; first | done | with_reducible rfl | ((repeat' apply And.intro) <;> with_reducible rfl))
  refine Calls.mono (LI.out _ hHeld) ?_
  rintro e1 Wc ⟨⟨v, rfl, hs⟩, KC⟩
  refine ⟨_, rfl, ?_, fun hHeld => ?_⟩
  focus (exact Kept.trans hHeld KC (fun _ _ h => h))
  try simp only [Act.put, List.setIfInBounds_toArray, List.set_cons_zero, List.set_cons_succ]
  refine takeH (i := 10) (d := (some 2)) (v := ?_) rfl rfl (by kernel_rfl) (by kernel_rfl) (by kernel_rfl) (fun _ _ _ h => h) (Or.inl ⟨by rfl, ?_⟩) (by assumption) ?_
  rotate_left 1
  focus (intro w hSw; clear hSw; go_simp; first | done | with_reducible rfl)
  try simp only [Act.put, List.setIfInBounds_toArray, List.set_cons_zero, List.set_cons_succ]
  refine wpAnyH_done (by kernel_rfl) ?_ _
  go_wp2
  go_ret
  exact ⟨⟨_, rfl, hs⟩, hHeld⟩
end Go.Proofs.YtjohljmpcblpjaaGreatDoor.Pa
