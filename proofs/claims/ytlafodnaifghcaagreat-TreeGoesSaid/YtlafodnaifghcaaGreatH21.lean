/- append of a string to a row of the call's own: where the new row lies. strings.Builder: WriteString and String, told with the blocks they turn. Text, by a range over All. isRune; rows of nodes compared. Runes in bytes, plainly: how many bytes the rune that begins at a place has. It speaks of no program of its own. -/
import Derived.Test.YtlafodnaifghcaaGreatH4
import Derived.Lib.AppendStr
import Derived.Deep.AppendSrc
import Derived.OwnWalk
import Derived.Test.YtlafodnaifghcaaGreatChecked
import Derived.WalkKit
import Derived.ProofKit
import Derived.Lib.Hide
import Derived.Lib.FrozenHead2
import Derived.Lib.UnsafeStr
import Derived.Lib.Builder
import Derived.Laws.Externs
import Derived.Test.YtlafodnaifghcaaGreatH10
import Derived.Test.YtlafodnaifghcaaGreatH3
import Derived.Laws.RangeAny
import Derived.Lib.RuneCount
namespace Go.Proofs.YtlafodnaifghcaaGreat
open Go.RowKit
section
variable {P : Program} {w : World}
theorem strCells_bytes (s : ByteArray) : Lib.strCells s = byteCells s := rfl
theorem append_string_at (t u ty e : TypeId) (i : TypeInfo) (ht : P.underlying t = some (.slice e)) (hu : P.underlying u = some .string) (hi : P.info? e = some i) (hz : i.zero = some (.int .u8 0)) (hsize : i.size = 1) (hby : i.bytes = 1)
    {base n : Nat} {v v' : Value} {w' : World} {xs : List Value} (hown : w.ownsRow base e 1 v n xs) (s : ByteArray) (hn : n + s.size ≤ 1000000000) (hr : (Builtin.append_ #[t, u] ty #[v, .string s]).run P w = .ok v' w') :
    v'.ownBlock = v.ownBlock ∨ v'.ownBlock = some w.heap.size := by
  have hs : Src P i.size u (.string s) s.size (byteCells s) w := by rw [hsize]; exact Src.ofString w hu s
  have hcap : ∀ old, old < n + s.size → Builtin.nextslicecap (n + s.size) old * i.bytes ≤ 281474976710656 := fun old h => by
    have := nextslicecap_le h
    rw [hby]
    omega
  rcases hown.2 with ⟨rfl, rfl⟩ | ⟨g, cap, cur, rfl, hb, hg, h1, h2, h3, h4⟩
  · rcases Nat.eq_zero_or_pos s.size with h0 | h0
    · have hrun : (Builtin.append_ #[t, u] ty #[.slice none 0 0, .string s]).run P w = .ok (.slice none 0 0) w := by
        have hc := hs.cells
        have hl := hs.len w
        rw [h0] at hc hl
        simp [Builtin.append_, run_underlying ht, run_underlying hu, sizeOf, typeInfo, hi, hl, hc]
      rw [hr] at hrun
      injection hrun with e1 e2
      left; rw [e1]
    · have hrun := run_append_grow_src (P := P) (w := w) t u ty e i _ ht hi hz none 0 0 [] (run_firstCells_none _ _ _ _ _) (.string s) s.size (byteCells s) hs (by omega) (by omega) (hcap 0 (by omega))
      rw [hr] at hrun
      injection hrun with e1 e2
      right; rw [e1]; rfl
  · have hblk : Blk w g e cur := hg
    by_cases hroom : n + s.size ≤ cap
    · have hl : (byteCells s).length = s.size := byteCells_length s
      have hrun := run_append_room_src (P := P) (w := w) t u ty e i ht hi g 0 n cap (.string s) s.size (byteCells s) hs hroom (fun j hj => by
        rw [hblk.cell, hsize]
        have : n + j < cur.size := by omega
        simp [this]) (fun j _ => hblk.frozen _)
      rw [hr] at hrun
      injection hrun with e1 e2
      left; rw [e1]; rfl
    · have hold : (Builtin.firstCells i.size n (.slice (some ⟨g, 0, none⟩) n cap)).run P w.drew = .ok xs.toArray w.drew := by
        rw [hsize]
        refine run_firstCells_some _ 1 n ⟨g, 0, none⟩ n cap xs hown.1 (fun j x hx => ?_)
        rw [Addr.add_lit, Nat.zero_add]
        show w.cell? ⟨g, j, none⟩ = some x
        rw [hblk.cell]
        rw [← h4, List.getElem?_take] at hx
        split at hx
        · simpa using hx
        · cases hx
      have hrun := run_append_grow_src (P := P) (w := w) t u ty e i _ ht hi hz (some ⟨g, 0, none⟩) n cap xs hold (.string s) s.size (byteCells s) hs (by omega) (by omega) (hcap cap (by omega))
      rw [hr] at hrun
      injection hrun with e1 e2
      right; rw [e1]; rfl
theorem wpList_append_string_at {ops : Array Oper} {rest : List Oper} {o : Oper} {a : Act} {Q : Exit → Act → World → Prop} (hgd : o.guard = none) (sl x : Operand) (t u : TypeId)
    (ho : o.op = .call { callee := .builtin .append, args := #[sl, x], argTypes := #[t, u] })
    (base : Nat) (e : TypeId) (i : TypeInfo) (ht : P.underlying t = some (.slice e)) (hu : P.underlying u = some .string) (hi : P.info? e = some i) (hz : i.zero = some (.int .u8 0))
    (hsize : i.size = 1) (hby : i.bytes = 1)
    (v : Value) (n : Nat) (xs : List Value) (hs : a.eval sl = v) (hown : w.ownsRow base e 1 v n xs) (s : ByteArray) (hx : a.eval x = .string s)
    (hn : n + s.size ≤ 1000000000) (hbase : base ≤ w.heap.size)
    (h : ∀ v' w', w'.ownsRow base e 1 v' (n + s.size) (xs ++ Lib.strCells s) → w.grownBy w' v.ownBlock → (v'.ownBlock = v.ownBlock ∨ v'.ownBlock = some w.heap.size) → wpList P ops Q rest (a.put o.dst v') w') : wpList P ops Q (o :: rest) a w := by
  refine wpList_plain hgd fun K hK => ?_
  obtain ⟨v', w', hr, h2, h3, h4⟩ := Lib.run_append_own_string (P := P) w base t u o.type e i ht hu hi hz hsize hby v n xs hown s (by unfold maxLen; omega) (by omega) hbase
  have hat := append_string_at t u o.type e i ht hu hi hz hsize hby hown s hn hr
  unfold Oper.wp execOp
  simp only [ho, resolve, invoke, builtin, Sem.run_bind, Sem.run_pure, Result.andThen_ok, List.map_toArray, List.map_cons, List.map_nil, hs, hx, hr]
  exact hK _ _ (h v' w' h2 h3 hat)
end
end Go.Proofs.YtlafodnaifghcaaGreat
namespace Go.Proofs.YtlafodnaifghcaaGreat.Tr
open Go.RowKit
theorem kept_one (w : World) (p : Addr) (v : Value) : Kept (· = p.block) w (w.setCell p v) := (Kept.refl (· = p.block) w).setCell (fun _ => rfl) v
/-- a builder in block b: its row v holds bs -/
structure Bld (w : World) (b base : Nat) (v : Value) (bs : List UInt8) : Prop where
  at_ : ∃ p, (p = Value.pointer none ∨ p = .pointer (some ⟨b, 0, none⟩)) ∧ Blk w b 105 #[p, v]
  row : w.ownsRow base 5 1 v bs.length (Lib.byteCells bs)
set_option maxRecDepth 100000 in
set_option maxHeartbeats 1000000 in
theorem copyCheck_any {w : World} {b base : Nat} {v : Value} {bs : List UInt8} (h : Bld w b base v bs) : Calls Tryz.prog 88 #[.pointer (some ⟨b, 0, none⟩)] w fun e w' =>
    e = .returned (.tuple #[]) ∧ Blk w' b 105 #[.pointer (some ⟨b, 0, none⟩), v] ∧ Kept (· = b) w w' ∧ w'.heap.size = w.heap.size := by
  obtain ⟨p, hp, hb⟩ := h.at_
  have c0 : w.cell? ⟨b, 0, none⟩ = some p := hb.cell' rfl
  have f0 := hb.frozen 0
  have HB := Lib.hid hb
  clear h hb
  have hsh : w.shape? b = some (105, 2) := by have h9 : w.heap[b]? = some (.cells #[p, v] 105 (0, 0)) := HB.out; simp [World.shape?, h9]
  obtain ⟨j, hj, hjs⟩ : ∃ j, Tryz.prog.info? 105 = some j ∧ j.size = 2 := Option.map_eq_some_iff.1 (by kernel_rfl : (Tryz.prog.info? 105).map (·.size) = some 2)
  have h1 : (convert 102 158 (.pointer (some ⟨b, 0, none⟩))).run Tryz.prog w = .ok (.pointer (some ⟨b, 0, none⟩)) w := Lib.run_to_unsafe w ⟨b, 0, none⟩ Tryz.underlying102 Tryz.underlying158 hj (by rw [hjs]; decide) hsh (Nat.zero_lt_succ 1)
  have h3 : (convert 158 102 (.pointer (some ⟨b, 0, none⟩))).run Tryz.prog w = .ok (.pointer (some ⟨b, 0, none⟩)) w := Lib.run_from_unsafe w ⟨b, 0, none⟩ Tryz.underlying158 Tryz.underlying102 hj hsh (by kernel_rfl)
  have h2 : (callFunc 109 #[.pointer (some ⟨b, 0, none⟩)]).run Tryz.prog w = .ok (.value (.pointer (some ⟨b, 0, none⟩))) w := by
    rw [run_callFunc_extern Tryz.func109 (by kernel_rfl) (by kernel_rfl) (by kernel_rfl) (e := Extern.AbiNoEscape.same) (by kernel_rfl), Lib.run_noEscape]
    rfl
  clear hjs hsh
  rcases hp with rfl | rfl
  · go_enter Tryz.func88, Tryz.ntmps88
    go_wp2
    go_end0
    exact ⟨rfl, HB.out.set_ 0 _, kept_one w ⟨b, 0, none⟩ _, World.size_setCell ..⟩
  · have hne : (binOp .neq 102 (.pointer (some ⟨b, 0, none⟩)) (.pointer (some ⟨b, 0, none⟩))).run Tryz.prog w = .ok (.bool false) w := Lib.run_neq_ptr_same w ⟨b, 0, none⟩ Tryz.underlying102 hj
    clear h1 h2 h3 hj
    go_enter Tryz.func88, Tryz.ntmps88
    go_wp2
    go_end0
    exact ⟨rfl, HB.out, Kept.refl _ _, rfl⟩
theorem info_u8 : (Tryz.prog.info? 5).map (fun i => (i.zero, i.size, i.bytes)) = some (some (.int .u8 0), 1, 1) := by kernel_rfl
theorem bld_owns {w : World} {base n : Nat} {v : Value} {xs : List Value} (h : w.ownsRow base 5 1 v n xs) : ∃ a c, v = .slice a n c := by
  rcases h.2 with ⟨rfl, rfl⟩ | ⟨g, cap, cur, rfl, _⟩
  · exact ⟨_, _, rfl⟩
  · exact ⟨_, _, rfl⟩
theorem bld_keep {S : Nat → Prop} {w w' : World} {base n size : Nat} {e : TypeId} {v : Value} {xs : List Value} (h : w.ownsRow base e size v n xs) (hk : Kept S w w') (hs : ∀ b, v.ownBlock = some b → ¬ S b) : w'.ownsRow base e size v n xs := by
  refine ⟨h.1, ?_⟩
  rcases h.2 with h' | ⟨g, cap, cur, rfl, hb, hg, r⟩
  · exact .inl h'
  · exact .inr ⟨g, cap, cur, rfl, hb, hk.blk (t := e) (cs := cur) (hs g rfl) hg, r⟩
theorem bld_ne {w : World} {base n b : Nat} {v : Value} {xs : List Value} {cs : Array Value} (h : w.ownsRow base 5 1 v n xs) (hb : Blk w b 105 cs) : ∀ g, v.ownBlock = some g → ¬ g = b := by
  intro g hg e
  rcases h.2 with ⟨rfl, _⟩ | ⟨g', cap, cur, rfl, _, h2, _⟩
  · cases hg
  · cases hg
    subst e
    exact Blk.ne_ (t := 5) (cs := cur) h2 hb (by decide) rfl
set_option maxRecDepth 100000 in
set_option maxHeartbeats 2000000 in
theorem bld_write {w : World} {b base : Nat} {v : Value} {bs : List UInt8} (h : Bld w b base v bs) (s : ByteArray) (hn : bs.length + s.size ≤ 1000000000) (hbase : base ≤ w.heap.size) :
    Calls Tryz.prog 58 #[.pointer (some ⟨b, 0, none⟩), .string s] w fun e w' => e = .returned (.tuple #[.int .i64 s.size, .nilIface]) ∧
      ∃ v', Bld w' b base v' (bs ++ s.data.toList) ∧ Kept (fun x => x = b ∨ v.ownBlock = some x) w w' ∧ (v'.ownBlock = v.ownBlock ∨ v'.ownBlock = some w.heap.size) := by
  have hcc := copyCheck_any h
  obtain ⟨i, hi, hz0, hz1, hz2⟩ := info_parts info_u8
  obtain ⟨p, _, hb⟩ := h.at_
  have hne := bld_ne h.row hb
  have H := Lib.hid h
  have NE := Lib.hid hne
  have HI := Lib.hid (And.intro hi (And.intro hz0 (And.intro hz1 hz2)))
  clear h hb hne hi hz0 hz1 hz2
  go_enter Tryz.func58, Tryz.ntmps58
  go_wp2_with (first | (go_at_call 88; refine hcc.mono ?_; clear hcc; rintro e w1 ⟨rfl, hb1, hk1, hz1⟩; have c1 : w1.cell? ⟨b, 1, none⟩ = some v := hb1.cell' rfl; have hs1 := hk1.size; have HB1 := Lib.hid hb1; have HK1 := Lib.hid hk1; have HR1 := Lib.hid (bld_keep H.out.row hk1 (fun g hg e => NE.out g hg e)); have HBS : Hid (base ≤ w1.heap.size) := Lib.hid (Nat.le_trans hbase hs1); have HZ : Hid (w1.heap.size = w.heap.size) := Lib.hid hz1; clear hb1 hk1 hs1 hz1) | (at_builtin; (refine wpList_append_string_at rfl (.tmp 12) (.tmp 13) 103 9 rfl base 5 i Tryz.underlying103 Tryz.underlying9 HI.out.1 HI.out.2.1 HI.out.2.2.1 HI.out.2.2.2 v _ _ rfl HR1.out s rfl hn HBS.out ?_); intro v2 w2 ho2 hg2 hb2; obtain ⟨a2, c2, rfl⟩ := bld_owns ho2; have HB2 := Lib.hid (HB1.out.grown hg2 (fun e => NE.out b (by rw [e]) rfl)); have d1 : w2.cell? ⟨b, 1, none⟩ = some v := HB2.out.cell' rfl; have f1 := HB2.out.frozen 1; have HO2 := Lib.hid ho2; have HG2 := Lib.hid hg2; have HBB := Lib.hid hb2; clear ho2 hg2 hb2))
  go_ret2
  refine ⟨rfl, _, { at_ := ⟨_, .inr rfl, HB2.out.set_ 1 _⟩, row := ?_ }, ?_, ?_⟩
  · have hc := kept_one w2 ⟨b, 1, none⟩ (.slice a2 (bs.length + s.size) c2)
    have h5 := bld_keep HO2.out hc (fun g hg e => by
      exact bld_ne HO2.out HB2.out g hg e)
    rw [List.length_append, Lib.byteCells_append, ← Lib.strCells_eq]
    exact h5
  · have k2 : Kept (fun x => x = b ∨ v.ownBlock = some x) w w2 := (HK1.out.mono fun _ _ h => .inl h).trans (Kept.grown (Kept.refl (fun x => v.ownBlock = some x) w1) HG2.out (fun k e _ => e)) fun _ _ h => .inr h
    exact k2.trans (kept_one w2 ⟨b, 1, none⟩ _) fun _ _ h => .inl h
  · rcases HBB.out with h5 | h5
    · exact .inl h5
    · right; rw [h5]; exact congrArg some HZ.out
theorem kept_freeze (w : World) (p : Addr) (n : Nat) : Kept (· = p.block) w (w.freeze p n) := by
  unfold World.freeze
  split
  · exact Kept.refl _ _
  · exact ⟨rfl, rfl, rfl, by simp, fun k _ hk => by
      show (w.heap.modify _ _)[k]? = _
      rw [Array.getElem?_modify, if_neg (fun e => hk e.symm)]⟩
/-- what is built, as a text: a builder that holds at least one byte -/
theorem bld_string {w : World} {b base : Nat} {v : Value} {bs : List UInt8} (h : Bld w b base v bs) (h0 : bs ≠ []) :
    Calls Tryz.prog 60 #[.pointer (some ⟨b, 0, none⟩)] w fun e w' => e = .returned (.string ⟨bs.toArray⟩) ∧ Kept (fun x => v.ownBlock = some x) w w' := by
  obtain ⟨p, _, hb⟩ := h.at_
  have hl0 : bs.length ≠ 0 := by simpa using h0
  obtain ⟨g, cap, cur, rfl, hbg, hg, hnc, hcm, hcs, htake⟩ : ∃ g cap cur, v = .slice (some ⟨g, 0, none⟩) bs.length cap ∧ base ≤ g ∧ w.heap[g]? = some (.cells cur 5 (0, 0)) ∧ bs.length ≤ cap ∧ cap ≤ maxLen ∧ cur.size = cap * 1 ∧ cur.toList.take (bs.length * 1) = Lib.byteCells bs := by
    rcases h.row.2 with ⟨_, hz⟩ | ⟨g, cap, cur, hv, r⟩
    · exact absurd hz hl0
    · exact ⟨g, cap, cur, hv, r⟩
  have c1 : w.drew.cell? ⟨b, 1, none⟩ = some (.slice (some ⟨g, 0, none⟩) bs.length cap) := hb.cell' rfl
  have hSD : (Builtin.unsafeSliceData_ #[103] 139 #[.slice (some ⟨g, 0, none⟩) bs.length cap]).run Tryz.prog w.drew = .ok (.pointer (some ⟨g, 0, none⟩)) w.drew := Lib.run_unsafeSliceData_row _ _ _ _ _ _ (by omega)
  have hUS : (Builtin.unsafeString_ #[139, 3] 9 #[.pointer (some ⟨g, 0, none⟩), .int .i64 bs.length]).run Tryz.prog w.drew = .ok (.string ⟨bs.toArray⟩) (w.drew.freeze ⟨g, 0, none⟩ bs.length) := by
    refine Lib.run_unsafeString_row w.drew 139 3 9 5 Tryz.underlying139 (by kernel_rfl) g cur.size (by have hg' : w.drew.heap[g]? = some (.cells cur 5 (0, 0)) := hg; simp [World.shape?, hg']) bs h0 (by omega) (by unfold maxLen at hcm; omega) ?_
    intro j x hx
    have hcj : cur[j]? = some (.int .u8 x.toNat) := by
      have h1 : (cur.toList.take (bs.length * 1))[j]? = some (.int .u8 x.toNat) := by rw [htake]; simp [Lib.byteCells, hx]
      rw [List.getElem?_take] at h1
      split at h1
      · simpa using h1
      · cases h1
    have hB : Blk w.drew g 5 cur := hg
    have h2 := hB.cell' hcj
    have e : ((⟨g, 0, none⟩ : Addr).add j) = ⟨g, j, none⟩ := by simp [Addr.add]; exact fun h => h.symm
    rw [e]; exact h2
  clear h hb hl0 hg hnc hcm hcs htake
  go_enter Tryz.func60, Tryz.ntmps60
  go_wp2
  go_region
  all_goals
    go_wp2
    go_ret
    exact ⟨rfl, ((Kept.refl (fun x => some g = some x) w).drew).trans ((kept_freeze w.drew ⟨g, 0, none⟩ bs.length).mono (fun k _ e => by rw [e])) (fun _ _ h => h)⟩
/-- nothing was built -/
theorem bld_string0 {w : World} {b base : Nat} (h : Bld w b base (.slice none 0 0) []) :
    Calls Tryz.prog 60 #[.pointer (some ⟨b, 0, none⟩)] w fun e w' => e = .returned (.string ⟨#[]⟩) ∧ Kept (fun _ => False) w w' := by
  obtain ⟨p, _, hb⟩ := h.at_
  have c1 : w.drew.cell? ⟨b, 1, none⟩ = some (.slice none 0 0) := hb.cell' rfl
  have hSD : (Builtin.unsafeSliceData_ #[103] 139 #[.slice none 0 0]).run Tryz.prog w.drew = .ok (.pointer none) w.drew := Lib.run_unsafeSliceData_nil w.drew ..
  have hUS : (Builtin.unsafeString_ #[139, 3] 9 #[.pointer none, .int .i64 0]).run Tryz.prog w.drew = .ok (.string .empty) w.drew := Lib.run_unsafeString_none w.drew ..
  clear h hb
  go_enter Tryz.func60, Tryz.ntmps60
  go_wp2
  go_region
  all_goals
    go_wp2
    go_ret
    exact ⟨rfl, (Kept.refl (fun _ => False) w).drew⟩
end Go.Proofs.YtlafodnaifghcaaGreat.Tr
namespace Go.Proofs.YtlafodnaifghcaaGreat.Tr
open Go.RowKit Go.Proofs.YtlafodnaifghcaaGreat.St Go.Shelf
attribute [local go_sem] Oper.semAt_some
def encB (r : Int) : List UInt8 := (Utf8.encode r).data.toList
theorem encB_len (r : Int) : 1 ≤ (encB r).length ∧ (encB r).length ≤ 4 := by
  unfold encB Utf8.encode
  dsimp only
  generalize (if Utf8.valid r = true then r.toNat else Utf8.runeError) = c
  by_cases h1 : c < 0x80
  · rw [if_pos h1]; simp
  · by_cases h2 : c < 0x800
    · rw [if_neg h1, if_pos h2]; simp
    · by_cases h3 : c < 0x10000
      · rw [if_neg h1, if_neg h2, if_pos h3]; simp
      · rw [if_neg h1, if_neg h2, if_neg h3]; simp
/-- what is shown, as bytes -/
def textB (L : List Nd) : List UInt8 := L.flatMap fun n => encB n.rune
theorem textB_snoc (L : List Nd) (m : Nd) : textB (L ++ [m]) = textB L ++ encB m.rune := by simp [textB]
theorem textB_len (L : List Nd) : (textB L).length ≤ 4 * L.length := by
  induction L with
  | nil => simp [textB]
  | cons m L ih => have := (encB_len m.rune).2; simp only [textB, List.flatMap_cons, List.length_append, List.length_cons] at *; omega
theorem textB_ne {L : List Nd} (h : L ≠ []) : textB L ≠ [] := by
  cases L with
  | nil => exact absurd rfl h
  | cons m L => intro e; have h1 := congrArg List.length e; have := (encB_len m.rune).1; simp only [textB, List.flatMap_cons, List.length_append, List.length_nil] at h1; omega
theorem encode_any (r : Int) (w : World) : Calls Tryz.prog 59 #[.int .i32 r] w fun e w' => e = .returned (.string ⟨(encB r).toArray⟩) ∧ w = w' := by
  have hc : (convert 21 9 (.int .i32 r)).run Tryz.prog w = .ok (.string (Utf8.encode r)) w := by
    simp [convert, run_underlying Tryz.underlying21, run_underlying Tryz.underlying9, Conv.intToString, go_sem]
  have e : (⟨(encB r).toArray⟩ : ByteArray) = Utf8.encode r := by unfold encB; simp
  rw [e]
  go_enter Tryz.func59, Tryz.ntmps59
  go_wp2
  go_ret
  exact ⟨rfl, rfl⟩
/-- between two rounds -/
structure TxtJ (w : World) (z B bl : Nat) (v : Value) (Ls : List Nd) (i : Nat) (X : Nat → Prop) (W : World) : Prop where
  kept : Kept (fun _ => False) w W
  bld : ∃ vb, Bld W z (B + 2) vb (textB (Ls.take i)) ∧ (∀ b, vb.ownBlock = some b → ¬ X b) ∧ (i = 0 → vb = .slice none 0 0)
  box : Blk W bl 31 #[v]
  row : SlAt nodeE W v Ls
  vlt : ∀ b, v.ownBlock = some b → z < b ∧ b < B
  far : ∀ b, X b → B ≤ b ∧ b < W.heap.size
  lt : w.heap.size ≤ z ∧ z < bl ∧ bl < B
  sz : B ≤ W.heap.size
theorem Bld.keep {w w' : World} {b base : Nat} {v : Value} {bs : List UInt8} {Y : Nat → Prop} (h : Bld w b base v bs) (hk : Kept Y w w') (h1 : ¬ Y b) (h2 : ∀ g, v.ownBlock = some g → ¬ Y g) : Bld w' b base v bs := by
  obtain ⟨p, hp, hb⟩ := h.at_
  exact ⟨⟨p, hp, hk.blk h1 hb⟩, bld_keep h.row hk h2⟩
theorem bld_lt {w : World} {base n size : Nat} {e : TypeId} {v : Value} {xs : List Value} (h : w.ownsRow base e size v n xs) : ∀ b, v.ownBlock = some b → base ≤ b ∧ b < w.heap.size := owns_lt h
theorem TxtJ.step {w W W' : World} {z B bl : Nat} {v : Value} {Ls : List Nd} {i : Nat} {X X' Y : Nat → Prop} (h : TxtJ w z B bl v Ls i X W) (hk : Kept Y W W') (hY : ∀ b, Y b → B ≤ b) (hYb : ∀ b, Y b → B + 2 ≤ b → X b) (hX : ∀ b, X' b → X b ∨ (W.heap.size ≤ b ∧ b < W'.heap.size)) : TxtJ w z B bl v Ls i X' W' := by
  obtain ⟨vb, hb, hx, hz⟩ := h.bld
  have hlt := owns_lt hb.row
  exact { kept := h.kept.trans hk fun b hb hy => by have := hY b hy; have := h.lt; omega
          bld := ⟨vb, hb.keep hk (fun hy => by have := hY _ hy; have := h.lt; omega) (fun g hg hy => hx g hg (hYb g hy (hlt g hg).1)), fun b hb hx' => by
            rcases hX b hx' with h1 | h1
            · exact hx b hb h1
            · have := (hlt b hb).2; omega, hz⟩
          box := hk.blk (fun hy => by have := hY _ hy; have := h.lt; omega) h.box
          row := h.row.keep hk fun b hb _ hy => by have := hY b hy; have := (h.vlt b hb).2; omega
          vlt := h.vlt
          far := fun b hb => by
            rcases hX b hb with h1 | h1
            · exact ⟨(h.far b h1).1, Nat.lt_of_lt_of_le (h.far b h1).2 hk.size⟩
            · have := h.sz; exact ⟨by omega, h1.2⟩
          lt := h.lt
          sz := Nat.le_trans h.sz hk.size }
set_option maxRecDepth 100000 in
set_option maxHeartbeats 8000000 in
theorem text_core {w : World} {p : Option Addr} {Ls : List Nd} (hlen : Ls.length ≤ 900000) (hA : Calls Tryz.prog 15 #[.pointer p] (w.alloc (.cells #[.pointer none, .slice none 0 0] 105)) fun e w' => (∃ b v, e = .returned (.func (.func 52) #[] #[.pointer (some ⟨b, 0, none⟩)]) ∧ (w.alloc (.cells #[.pointer none, .slice none 0 0] 105)).heap.size ≤ b ∧ Blk w' b 31 #[v] ∧ w'.ownsRow (w.alloc (.cells #[.pointer none, .slice none 0 0] 105)).heap.size 45 6 v Ls.length (nodeE.flat Ls)) ∧ Kept (fun _ => False) (w.alloc (.cells #[.pointer none, .slice none 0 0] 105)) w') :
    Calls Tryz.prog 21 #[.pointer p] w fun e w' => e = .returned (.string ⟨(textB Ls).toArray⟩) ∧ Kept (fun _ => False) w w' := by
  refine (callsIn_wide (n := 6)).1 ?_
  have k0 : Kept (fun _ => False) w (w.alloc (.cells #[.pointer none, .slice none 0 0] 105)) := (Kept.refl _ _).alloc _
  have b0 := Blk.new w 105 #[.pointer none, .slice none 0 0]
  have HA := Lib.hid hA
  have K0 := Lib.hid k0
  have B0 := Lib.hid b0
  have HL := Lib.hid hlen
  clear hA k0 b0 hlen
  refine callsIn_of_wp_marks Tryz.func21 rfl trivial ?_ rfl
  simp only [Tryz.ntmps21, List.size_toArray, List.length_cons, List.length_nil, Nat.reduceAdd, Nat.reduceSub, Array.replicate_succ, Array.replicate_zero, List.push_toArray, List.append_toArray, List.nil_append, List.cons_append]
  gi_wp2_with (refine ⟨trivial, ?_⟩; gi_at_call 15; refine (callsIn_wide.2 HA.out).mono ?_; rintro e W0 ⟨⟨bl, v, rfl, hbl, hbox, hrow⟩, hk⟩)
  have hz1 : (w.alloc (.cells #[.pointer none, .slice none 0 0] 105)).heap.size = w.heap.size + 1 := World.size_alloc _ _
  rw [hz1] at hbl hrow
  have hT : TxtJ w w.heap.size W0.heap.size bl v Ls 0 (fun _ => False) W0 :=
    { kept := K0.out.trans hk fun _ _ h => h
      bld := ⟨.slice none 0 0, ⟨⟨.pointer none, .inl rfl, hk.blk (fun h => h) B0.out⟩, by simp [textB, Lib.byteCells]; exact World.ownsRow_nil ..⟩, (fun b hb => by cases hb), fun _ => rfl⟩
      box := hbox
      row := owns_slAt (E := nodeE) hrow
      vlt := fun b hb => by have := owns_lt hrow b hb; omega
      far := fun _ h => h.elim
      lt := ⟨Nat.le_refl _, by omega, hbox.lt⟩
      sz := Nat.le_refl _ }
  have HT := Lib.hid hT
  clear hbl hbox hrow hk hz1 hT
  refine wpIn_iter rfl (by decide) (gf := 52) (lb := #[.pointer (some ⟨bl, 0, none⟩)]) rfl trivial (enters_of Tryz.func52 (by kernel_rfl) rfl) (all2_iter (L := Ls) (v := v) (by have := HL.out; omega)) (fun _ _ => rfl) W0.heap.size rfl (TxtJ w w.heap.size W0.heap.size bl v Ls) (fun _ _ _ => False) ?hrd ?hgr ?hgx ?hob ?hox ?h0 ?round ?done ?stop
  case hrd => intro i X W hJ; exact ⟨hJ.box.cell' rfl, hJ.row⟩
  case hgr => intro i X W W' hJ hk; exact hJ.step hk (fun b hb => (hJ.far b hb).1) (fun _ hb _ => hb) fun _ hb => hb
  case hgx => intro c X W W' h _; exact h
  case hob => intro i X W o' hJ; exact hJ.step (kept_put W (W0.heap.size + 1) o') (fun b hb => by rw [hb]; omega) (fun b hb h2 => by rw [hb] at h2; omega) fun _ hb => .inl hb
  case hox => intro c X W o' hJ; exact hJ
  case h0 => intro o1 o2; exact (HT.out.step (((Kept.refl (fun _ => False) W0).alloc o1).alloc o2) (fun _ h => h.elim) (fun _ h => h.elim) fun _ h => h.elim)
  case round =>
    intro i W K hi hK
    have hm := nth_lt hi
    unfold nodeEnc
    generalize nth Ls i = m at hm ⊢
    gi_wp2
    rintro X W h2 hJ
    have hil := hi
    obtain ⟨vb, hb, hx, _⟩ := hJ.bld
    have hlen2 := textB_len (Ls.take i)
    have hlen3 := List.length_take_le i Ls
    have henc := encB_len m.rune
    have hw := bld_write hb ⟨(encB m.rune).toArray⟩ (by have := HL.out; show _ + (encB m.rune).toArray.size ≤ _; rw [List.size_toArray]; omega) (by omega)
    have H2 := Lib.hid h2
    have HJ := Lib.hid hJ
    have HX := Lib.hid hx
    have HM := Lib.hid hm
    have HBO := Lib.hid (owns_lt hb.row)
    have HW := Lib.hid hw
    have he := encode_any m.rune W
    clear h2 hJ hb hx hm hw hlen2 hlen3 henc hil
    gi_wp2_with (first | (refine ⟨trivial, ?_⟩; gi_at_call 59; refine (CallsIn.inRound _ (callsIn_wide.2 he)).mono ?_; rintro e w' ⟨rfl, rfl⟩) | (refine ⟨trivial, ?_⟩; gi_at_call 58; refine (CallsIn.inRound _ (callsIn_wide.2 HW.out)).mono ?_; rintro e w2 ⟨rfl, v2, hb2, hk2, hv2⟩))
    have hj := HJ.out
    have hlz : w.heap.size < bl ∧ bl < W0.heap.size := ⟨hj.lt.2.1, hj.lt.2.2⟩
    have hno : ∀ b, (b = w.heap.size ∨ vb.ownBlock = some b) → b < W.heap.size → b = w.heap.size ∨ W0.heap.size + 2 ≤ b := fun b hb _ => hb.imp id fun h => (HBO.out b h).1
    refine ⟨fun x hx => hk2.block x ?_ ?_, hk2.size, ?_⟩
    · rcases hx with hx | rfl | rfl
      · exact (hj.far x hx).2
      · have := H2.out; omega
      · exact H2.out
    · rintro (e | e)
      · rcases hx with hx | hx | hx
        · have := (hj.far x hx).1; omega
        · omega
        · omega
      · rcases hx with hx | hx | hx
        · exact HX.out x e hx
        · have := (HBO.out x e).1; omega
        · have := (HBO.out x e).1; omega
    · exact { kept := hj.kept.trans hk2 fun b hb hy => by rcases hy with e | e; omega; have := (HBO.out b e).1; omega
              bld := ⟨v2, by rw [List.take_add_one, HM.out]; show Bld w2 w.heap.size (W0.heap.size + 2) v2 (textB (List.take i Ls ++ [m])); rw [textB_snoc]; simpa using hb2, (fun b hb hXb => by
                rcases hv2 with e | e
                · rw [e] at hb; exact HX.out b hb hXb
                · rw [e] at hb; injection hb with hb; have := (hj.far b hXb).2; omega), fun e => by omega⟩
              box := hk2.blk (fun hy => by rcases hy with e | e; omega; have := (HBO.out bl e).1; omega) hj.box
              row := hj.row.keep hk2 fun b hb _ hy => by have := hj.vlt b hb; rcases hy with e | e; omega; have := (HBO.out b e).1; omega
              vlt := hj.vlt
              far := fun b hb => ⟨(hj.far b hb).1, Nat.lt_of_lt_of_le (hj.far b hb).2 hk2.size⟩
              lt := hj.lt
              sz := Nat.le_trans hj.sz hk2.size }
  case done =>
    rintro X W hJ hK
    obtain ⟨vb, hb, hx, hz⟩ := hJ.bld
    rw [List.take_length] at hb
    have hst : Calls Tryz.prog 60 #[.pointer (some ⟨w.heap.size, 0, none⟩)] W fun e w' => e = .returned (.string ⟨(textB Ls).toArray⟩) ∧ Kept (fun x => vb.ownBlock = some x) W w' := by
      by_cases hl : Ls = []
      · subst hl
        have hz2 := hz rfl
        subst hz2
        exact (bld_string0 hb).mono fun e w' ⟨h1, h2⟩ => ⟨h1, h2.mono fun _ _ h => h.elim⟩
      · exact bld_string hb (textB_ne hl)
    have HJ := Lib.hid hJ
    have HK := Lib.hid hK
    have HBO := Lib.hid (owns_lt hb.row)
    have HS := Lib.hid hst
    clear hJ hb hx hz hK hst
    gi_wp2_with (refine ⟨trivial, ?_⟩; gi_at_call 60; refine (callsIn_wide.2 HS.out).mono ?_; rintro e w2 ⟨rfl, hk2⟩)
    refine ret_range ((hk2.block _ (Array.getElem?_eq_some_iff.1 HK.out).1 (fun e => by have := (HBO.out _ e).1; omega)).trans HK.out) (results_tmp rfl _ _ _) ⟨rfl, ?_⟩
    have hlt := HJ.out.lt
    exact (HJ.out.kept.trans hk2 fun b hb e => by have := (HBO.out b e).1; omega).trans (kept_put w2 W0.heap.size (.deferred none)) fun b hb e => by omega
  case stop =>
    rintro c X W h _
    exact h.elim
theorem text_any {w : World} {g : Nat} {L : List Nd} {A : ID → Nat} {S : ID → Rw} {mp : Option Nat} (h : TAt w g L A S mp) (hdoc : Doc L) (hlen : L.length ≤ 900000) :
    Calls Tryz.prog 21 #[.pointer (some ⟨g, 0, none⟩)] w fun e w' => e = .returned (.string ⟨(textB (shL L)).toArray⟩) ∧ Kept (fun _ => False) w w' :=
  text_core (by have := shL_le L; omega) (allf_any (h.still ((Kept.refl (fun _ => False) w).alloc (.cells #[.pointer none, .slice none 0 0] 105))) hdoc hlen)
end Go.Proofs.YtlafodnaifghcaaGreat.Tr
namespace Go.Proofs.YtlafodnaifghcaaGreat.Tr
open Go.RowKit Go.Proofs.YtlafodnaifghcaaGreat.St
theorem valid_iff (r : Int) : Utf8.valid r = true ↔ isRuneP r := by
  unfold Utf8.valid isRuneP
  simp only [Bool.or_eq_true, Bool.and_eq_true, decide_eq_true_eq]
  omega
theorem enc_three {c : Nat} (h1 : c < 65536) (h : UInt8.ofNat (0xE0 + c / 4096) = 239 ∧ UInt8.ofNat (0x80 + c / 64 % 64) = 191 ∧ UInt8.ofNat (0x80 + c % 64) = 189) : c = 65533 := by
  obtain ⟨a, b, d⟩ := h
  have a1 := congrArg UInt8.toNat a
  have b1 := congrArg UInt8.toNat b
  have d1 := congrArg UInt8.toNat d
  simp at a1 b1 d1
  omega
/-- the bytes of U+FFFD are its own and those of what is no rune -/
theorem enc_bad {r : Int} (h : r ≠ 65533) : encB r ≠ encB 65533 ↔ isRuneP r := by
  rw [← valid_iff]
  have e0 : encB 65533 = [239, 191, 189] := by decide
  rw [e0]
  constructor
  · intro hne
    refine Decidable.byContradiction fun hv => hne ?_
    unfold encB Utf8.encode
    dsimp only
    rw [if_neg hv]
    decide
  · intro hv he
    have hr := (valid_iff r).1 hv
    unfold isRuneP at hr
    have hc : r.toNat ≠ 65533 := by omega
    unfold encB Utf8.encode at he
    dsimp only at he
    rw [if_pos hv] at he
    generalize r.toNat = c at *
    by_cases h1 : c < 0x80
    · rw [if_pos h1] at he; simp at he
    · by_cases h2 : c < 0x800
      · rw [if_neg h1, if_pos h2] at he; simp at he
      · by_cases h3 : c < 0x10000
        · rw [if_neg h1, if_neg h2, if_pos h3] at he
          have he2 : UInt8.ofNat (0xE0 + c / 4096) = 239 ∧ UInt8.ofNat (0x80 + c / 64 % 64) = 191 ∧ UInt8.ofNat (0x80 + c % 64) = 189 := by
            simpa using he
          exact hc (enc_three h3 he2)
        · rw [if_neg h1, if_neg h2, if_neg h3] at he; simp at he
theorem bytes_eqb (a b : List UInt8) : ((⟨a.toArray⟩ : ByteArray).toList == (⟨b.toArray⟩ : ByteArray).toList) = decide (a = b) := by
  rw [ByteArray.toList_eq, ByteArray.toList_eq, Bool.eq_iff_iff]
  simp
set_option maxRecDepth 100000 in
theorem isRune_any (r : Int) (w : World) : Calls Tryz.prog 45 #[.int .i32 r] w fun e w' => e = .returned (.bool (decide (isRuneP r))) ∧ w = w' := by
  by_cases h : r = 65533
  · subst h
    rw [decide_eq_true (by decide : isRuneP 65533)]
    go_enter Tryz.func45, Tryz.ntmps45
    go_wp2
    go_ret
    exact ⟨rfl, rfl⟩
  · have hq : decide (encB r = encB 65533) = !decide (isRuneP r) := by
      have e := enc_bad h
      by_cases hp : isRuneP r
      · rw [decide_eq_true hp, decide_eq_false (e.2 hp)]; rfl
      · rw [decide_eq_false hp, decide_eq_true (Decidable.byContradiction fun hn => hp (e.1 hn))]; rfl
    have hb := bytes_eqb (encB r) (encB 65533)
    rw [hq] at hb
    have q6 : (r == 65533) = false := by simpa using h
    generalize decide (isRuneP r) = bb at *
    have E1 := Lib.hid (encode_any r)
    have E2 := Lib.hid (encode_any 65533)
    obtain ⟨s1, hs1⟩ : ∃ s1 : ByteArray, (⟨(encB r).toArray⟩ : ByteArray) = s1 := ⟨_, rfl⟩
    obtain ⟨s2, hs2⟩ : ∃ s2 : ByteArray, (⟨(encB 65533).toArray⟩ : ByteArray) = s2 := ⟨_, rfl⟩
    rw [hs1] at E1 hb
    rw [hs2] at E2 hb
    clear hq hs1 hs2
    go_enter Tryz.func45, Tryz.ntmps45
    go_wp2_with (first | (go_at_call 59; with_reducible refine (E1.out _).mono ?_; rintro e w' ⟨rfl, rfl⟩) | (go_at_call 59; with_reducible refine (E2.out _).mono ?_; rintro e w' ⟨rfl, rfl⟩))
    go_ret
    exact ⟨by simp, rfl⟩
end Go.Proofs.YtlafodnaifghcaaGreat.Tr
namespace Go.Proofs.YtlafodnaifghcaaGreat.Gl
/-- the byte at a place -/
def byteAt (s : ByteArray) (i : Nat) : Int := (s.get! i).toNat
theorem get_bang {s : ByteArray} {i : Nat} (h : i < s.size) : s.get! i = s[i] := by
  simp [ByteArray.get!, getElem!_pos, h]
  rfl
theorem byteAt_get {s : ByteArray} {i : Nat} (h : i < s.size) : ((s[i]).toNat : Int) = byteAt s i := by
  unfold byteAt
  rw [get_bang h]
theorem byteAt_bd (s : ByteArray) (i : Nat) : 0 ≤ byteAt s i ∧ byteAt s i ≤ 255 := by
  unfold byteAt
  have := (s.get! i).toNat_lt
  omega
def inB (s : ByteArray) (i : Nat) (lo hi : Int) : Prop := i < s.size ∧ lo ≤ byteAt s i ∧ byteAt s i ≤ hi
instance (s : ByteArray) (i : Nat) (lo hi : Int) : Decidable (inB s i lo hi) := by unfold inB; infer_instance
def loB (a : Int) : Int := if a = 224 then 160 else if a = 240 then 144 else 128
def hiB (a : Int) : Int := if a = 237 then 159 else if a = 244 then 143 else 191
/-- how many bytes behind the first -/
def tailN (a : Int) : Nat := if a < 224 then 1 else if a < 240 then 2 else 3
def runeW (s : ByteArray) (i : Nat) : Nat :=
  if byteAt s i < 128 then 1 else
  if byteAt s i < 194 ∨ 244 < byteAt s i then 0 else
  if inB s (i + 1) (loB (byteAt s i)) (hiB (byteAt s i)) ∧ (2 ≤ tailN (byteAt s i) → inB s (i + 2) 128 191) ∧ (3 ≤ tailN (byteAt s i) → inB s (i + 3) 128 191) then tailN (byteAt s i) + 1 else 0
/-- the same, of four bytes and of which there are -/
def runeN (a b c d : Int) (p q r : Prop) [Decidable p] [Decidable q] [Decidable r] : Nat :=
  if a < 128 then 1 else
  if a < 194 ∨ 244 < a then 0 else
  if (p ∧ loB a ≤ b ∧ b ≤ hiB a) ∧ (2 ≤ tailN a → q ∧ 128 ≤ c ∧ c ≤ 191) ∧ (3 ≤ tailN a → r ∧ 128 ≤ d ∧ d ≤ 191) then tailN a + 1 else 0
theorem runeN_eq (s : ByteArray) (i : Nat) : runeW s i = runeN (byteAt s i) (byteAt s (i + 1)) (byteAt s (i + 2)) (byteAt s (i + 3)) (i + 1 < s.size) (i + 2 < s.size) (i + 3 < s.size) := rfl
section
variable {a b c d : Nat} {p q r : Prop} [Decidable p] [Decidable q] [Decidable r]
theorem runeN_1 (h : a < 128) : runeN a b c d p q r = 1 := if_pos (by omega)
theorem runeN_none (h : 128 ≤ a) (h2 : a < 194 ∨ 244 < a) : runeN a b c d p q r = 0 := by
  unfold runeN
  rw [if_neg (by omega), if_pos (by omega)]
theorem runeN_2 (h : 194 ≤ a) (h2 : a < 224) : runeN a b c d p q r = if p ∧ 128 ≤ b ∧ b ≤ 191 then 2 else 0 := by
  unfold runeN
  have e1 : tailN (a : Int) = 1 := if_pos (by omega)
  have e2 : loB (a : Int) = 128 := by unfold loB; rw [if_neg (by omega), if_neg (by omega)]
  have e3 : hiB (a : Int) = 191 := by unfold hiB; rw [if_neg (by omega), if_neg (by omega)]
  rw [if_neg (by omega), if_neg (by omega), e1, e2, e3]
  by_cases hp : p ∧ 128 ≤ b ∧ b ≤ 191
  · rw [if_pos hp, if_pos ⟨⟨hp.1, by omega, by omega⟩, fun h => by omega, fun h => by omega⟩]
  · rw [if_neg hp, if_neg (fun h => hp ⟨h.1.1, by omega, by omega⟩)]
theorem runeN_3 (h : 224 ≤ a) (h2 : a < 240) : runeN a b c d p q r = if (p ∧ (if a = 224 then 160 else 128) ≤ b ∧ b ≤ (if a = 237 then 159 else 191)) ∧ q ∧ 128 ≤ c ∧ c ≤ 191 then 3 else 0 := by
  unfold runeN
  have e1 : tailN (a : Int) = 2 := by unfold tailN; rw [if_neg (by omega), if_pos (by omega)]
  have e2 : loB (a : Int) = ((if a = 224 then 160 else 128 : Nat) : Int) := by unfold loB; split <;> split <;> first | rfl | omega | (split <;> first | rfl | omega)
  have e3 : hiB (a : Int) = ((if a = 237 then 159 else 191 : Nat) : Int) := by unfold hiB; split <;> split <;> first | rfl | omega | (split <;> first | rfl | omega)
  rw [if_neg (by omega), if_neg (by omega), e1, e2, e3]
  generalize (if a = 224 then 160 else 128 : Nat) = lo
  generalize (if a = 237 then 159 else 191 : Nat) = hi
  by_cases hp : (p ∧ lo ≤ b ∧ b ≤ hi) ∧ q ∧ 128 ≤ c ∧ c ≤ 191
  · rw [if_pos hp, if_pos ⟨⟨hp.1.1, by omega, by omega⟩, fun _ => ⟨hp.2.1, by omega, by omega⟩, fun h => by omega⟩]
  · rw [if_neg hp, if_neg (fun h => hp ⟨⟨h.1.1, by omega, by omega⟩, (h.2.1 (by omega)).1, by have := h.2.1 (by omega); omega, by have := h.2.1 (by omega); omega⟩)]
theorem runeN_4 (h : 240 ≤ a) (h2 : a ≤ 244) : runeN a b c d p q r = if (p ∧ (if a = 240 then 144 else 128) ≤ b ∧ b ≤ (if a = 244 then 143 else 191)) ∧ (q ∧ 128 ≤ c ∧ c ≤ 191) ∧ r ∧ 128 ≤ d ∧ d ≤ 191 then 4 else 0 := by
  unfold runeN
  have e1 : tailN (a : Int) = 3 := by unfold tailN; rw [if_neg (by omega), if_neg (by omega)]
  have e2 : loB (a : Int) = ((if a = 240 then 144 else 128 : Nat) : Int) := by unfold loB; split <;> split <;> first | rfl | omega | (split <;> first | rfl | omega)
  have e3 : hiB (a : Int) = ((if a = 244 then 143 else 191 : Nat) : Int) := by unfold hiB; split <;> split <;> first | rfl | omega | (split <;> first | rfl | omega)
  rw [if_neg (by omega), if_neg (by omega), e1, e2, e3]
  generalize (if a = 240 then 144 else 128 : Nat) = lo
  generalize (if a = 244 then 143 else 191 : Nat) = hi
  by_cases hp : (p ∧ lo ≤ b ∧ b ≤ hi) ∧ (q ∧ 128 ≤ c ∧ c ≤ 191) ∧ r ∧ 128 ≤ d ∧ d ≤ 191
  · rw [if_pos hp, if_pos ⟨⟨hp.1.1, by omega, by omega⟩, fun _ => ⟨hp.2.1.1, by omega, by omega⟩, fun _ => ⟨hp.2.2.1, by omega, by omega⟩⟩]
  · rw [if_neg hp, if_neg (fun h => hp ⟨⟨h.1.1, by omega, by omega⟩, ⟨(h.2.1 (by omega)).1, by have := h.2.1 (by omega); omega, by have := h.2.1 (by omega); omega⟩, (h.2.2 (by omega)).1, by have := h.2.2 (by omega); omega, by have := h.2.2 (by omega); omega⟩)]
end
theorem valid_iff (n : Int) : Utf8.valid n = true ↔ (0 ≤ n ∧ n < 55296) ∨ (57344 ≤ n ∧ n ≤ 1114111) := by
  unfold Utf8.valid
  rw [Bool.or_eq_true, Bool.and_eq_true, Bool.and_eq_true, decide_eq_true_iff, decide_eq_true_iff, decide_eq_true_iff, decide_eq_true_iff]
set_option maxRecDepth 10000 in
theorem decode_runeW (s : ByteArray) (i : Nat) : (Utf8.decode s i).2 = (if runeW s i = 0 then 1 else runeW s i) ∧ (runeW s i = 0 → (Utf8.decode s i).1 = 65533) := by
  have h0 := (s.get! i).toNat_lt
  have h1 := (s.get! (i + 1)).toNat_lt
  have h2 := (s.get! (i + 2)).toNat_lt
  have h3 := (s.get! (i + 3)).toNat_lt
  rw [runeN_eq]
  unfold byteAt
  obtain ⟨x, hx⟩ : ∃ x, Utf8.decode s i = x := ⟨_, rfl⟩
  rw [hx]
  simp only [Utf8.decode, Nat.add_zero] at hx
  simp only [Bool.and_eq_true, beq_iff_eq, decide_eq_true_iff, valid_iff] at hx
  generalize (s.get! i).toNat = a at *
  generalize (s.get! (i + 1)).toNat = b at *
  generalize (s.get! (i + 2)).toNat = c at *
  generalize (s.get! (i + 3)).toNat = d at *
  have hE : Utf8.runeError = 65533 := rfl
  rw [hE] at hx
  have bad : ∀ {n : Nat}, n = 0 → x = (65533, 1) → x.2 = (if n = 0 then 1 else n) ∧ (n = 0 → x.1 = 65533) := fun h1 h2 => by subst h1 h2; exact ⟨rfl, fun _ => rfl⟩
  have good : ∀ {n m r : Nat}, n = m → m ≠ 0 → x = (r, m) → x.2 = (if n = 0 then 1 else n) ∧ (n = 0 → x.1 = 65533) := fun h1 h2 h3 => by subst h1 h3; exact ⟨by rw [if_neg h2], fun h => absurd h h2⟩
  by_cases c1 : a < 128
  · rw [if_pos c1] at hx
    exact good (runeN_1 c1) (by decide) hx.symm
  rw [if_neg c1] at hx
  by_cases c2 : a < 224
  · rw [if_neg (show ¬ ((a / 16 = 14 ∧ _) ∧ _) by omega), if_neg (show ¬ (((a / 8 = 30 ∧ _) ∧ _) ∧ _) by omega)] at hx
    by_cases c3 : a / 32 = 6 ∧ i + 1 < s.size ∧ b / 64 = 2
    · rw [if_pos c3] at hx
      by_cases c4 : a < 194
      · rw [if_neg (by omega)] at hx
        exact bad (runeN_none (by omega) (by omega)) hx.symm
      · rw [if_pos (by omega)] at hx
        refine good (m := 2) ?_ (by decide) hx.symm
        rw [runeN_2 (by omega) c2, if_pos ⟨c3.2.1, by omega, by omega⟩]
    · rw [if_neg c3] at hx
      refine bad ?_ hx.symm
      by_cases c4 : a < 194
      · exact runeN_none (by omega) (by omega)
      · rw [runeN_2 (by omega) c2, if_neg (fun h => c3 ⟨by omega, h.1, by omega⟩)]
  by_cases c3 : a < 240
  · rw [if_neg (show ¬ (a / 32 = 6 ∧ _) by omega), if_neg (show ¬ (((a / 8 = 30 ∧ _) ∧ _) ∧ _) by omega)] at hx
    by_cases c4 : (a / 16 = 14 ∧ i + 1 < s.size ∧ b / 64 = 2) ∧ i + 2 < s.size ∧ c / 64 = 2
    · rw [if_pos c4] at hx
      by_cases c5 : (if a = 224 then 160 else 128) ≤ b ∧ b ≤ (if a = 237 then 159 else 191)
      · rw [if_pos (by split at c5 <;> split at c5 <;> omega)] at hx
        refine good (m := 3) ?_ (by decide) hx.symm
        rw [runeN_3 (by omega) c3, if_pos ⟨⟨c4.1.2.1, c5⟩, c4.2.1, by omega, by omega⟩]
      · rw [if_neg (by split at c5 <;> split at c5 <;> omega)] at hx
        refine bad ?_ hx.symm
        rw [runeN_3 (by omega) c3, if_neg (fun h => c5 h.1.2)]
    · rw [if_neg c4] at hx
      refine bad ?_ hx.symm
      rw [runeN_3 (by omega) c3, if_neg (fun h => c4 ⟨⟨by omega, h.1.1, by have := h.1.2; split at this <;> split at this <;> omega⟩, h.2.1, by omega⟩)]
  · rw [if_neg (show ¬ (a / 32 = 6 ∧ _) by omega), if_neg (show ¬ ((a / 16 = 14 ∧ _) ∧ _) by omega)] at hx
    by_cases c4 : ((a / 8 = 30 ∧ i + 1 < s.size ∧ b / 64 = 2) ∧ i + 2 < s.size ∧ c / 64 = 2) ∧ i + 3 < s.size ∧ d / 64 = 2
    · rw [if_pos c4] at hx
      by_cases c6 : a ≤ 244
      · by_cases c5 : (if a = 240 then 144 else 128) ≤ b ∧ b ≤ (if a = 244 then 143 else 191)
        · rw [if_pos (by split at c5 <;> split at c5 <;> omega)] at hx
          refine good (m := 4) ?_ (by decide) hx.symm
          rw [runeN_4 (by omega) c6, if_pos ⟨⟨c4.1.1.2.1, c5⟩, ⟨c4.1.2.1, by omega, by omega⟩, c4.2.1, by omega, by omega⟩]
        · rw [if_neg (by split at c5 <;> split at c5 <;> omega)] at hx
          refine bad ?_ hx.symm
          rw [runeN_4 (by omega) c6, if_neg (fun h => c5 h.1.2)]
      · rw [if_neg (by omega)] at hx
        exact bad (runeN_none (by omega) (by omega)) hx.symm
    · rw [if_neg c4] at hx
      refine bad ?_ hx.symm
      by_cases c6 : a ≤ 244
      · rw [runeN_4 (by omega) c6, if_neg (fun h => c4 ⟨⟨⟨by omega, h.1.1, by have := h.1.2; split at this <;> split at this <;> omega⟩, h.2.1.1, by omega⟩, h.2.2.1, by omega⟩)]
      · exact runeN_none (by omega) (by omega)
theorem byteAt_extract (s : ByteArray) (i j : Nat) (h : i ≤ s.size) : byteAt (s.extract i s.size) j = byteAt s (i + j) := by
  have hs : (s.extract i s.size).size = s.size - i := by simp
  unfold byteAt
  by_cases hj : i + j < s.size
  · rw [get_bang hj, get_bang (by rw [hs]; omega)]
    simp [ByteArray.getElem_extract]
  · have e1 : s.get! (i + j) = default := by
      show s.data[i + j]! = default
      exact getElem!_neg _ _ (by simpa using hj)
    have e2 : (s.extract i s.size).get! j = default := by
      show (s.extract i s.size).data[j]! = default
      refine getElem!_neg _ _ ?_
      have : (s.extract i s.size).data.size = s.size - i := hs
      rw [this]
      omega
    rw [e1, e2]
theorem runeW_extract (s : ByteArray) (i : Nat) (h : i ≤ s.size) : runeW (s.extract i s.size) 0 = runeW s i := by
  have hs : (s.extract i s.size).size = s.size - i := by simp
  have key : ∀ {a b c d : Int} {p q r p' q' r' : Prop} [Decidable p] [Decidable q] [Decidable r] [Decidable p'] [Decidable q'] [Decidable r'], (p ↔ p') → (q ↔ q') → (r ↔ r') → runeN a b c d p q r = runeN a b c d p' q' r' := by
    intro a b c d p q r p' q' r' _ _ _ _ _ _ h1 h2 h3
    unfold runeN
    simp only [h1, h2, h3]
  rw [runeN_eq, runeN_eq, byteAt_extract s i _ h, byteAt_extract s i _ h, byteAt_extract s i _ h, byteAt_extract s i _ h, Nat.zero_add, Nat.zero_add, Nat.zero_add, Nat.add_zero]
  refine key ?_ ?_ ?_ <;> rw [hs] <;> omega
end Go.Proofs.YtlafodnaifghcaaGreat.Gl
