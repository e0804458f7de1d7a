/- All's iterator: for a function that is handed to it, and in a range over a function. append of a string to a row of the call's own: where the new row lies. strings.Builder: WriteString and String, told with the blocks they turn. -/
import Derived.Test.YtlafodnaifghcaaK21
import Derived.Test.YtlafodnaifghcaaK5
import Derived.Lib.AppendStr
import Derived.Deep.AppendSrc
import Derived.OwnWalk
import Derived.Test.YtlafodnaifghcaaChecked
import Derived.WalkKit
import Derived.ProofKit
import Derived.Lib.Hide
import Derived.Lib.FrozenHead2
import Derived.Lib.UnsafeStr
import Derived.Lib.Builder
import Derived.Laws.Externs
namespace Go.Proofs.Ytlafodnaifghcaa.Tr
open Go.RowKit Go.Proofs.Ytlafodnaifghcaa.St Go.Shelf
attribute [local go_sem] Oper.semAt_some
theorem SlAt.node {w : World} {v : Value} {L : List Nd} (h : SlAt nodeE w v L) (hn : 0 < L.length) : ∃ g o c, v = .slice (some ⟨g, o, none⟩) L.length c ∧ g < w.heap.size ∧ ∀ (i : Nat) (x : Nd), L[i]? = some x →
    w.cell? ⟨g, o + i * 6, none⟩ = some (.int .i64 x.id.t) ∧ w.cell? ⟨g, o + i * 6 + 1, none⟩ = some (.int .i64 x.id.s) ∧ w.cell? ⟨g, o + i * 6 + 2, none⟩ = some (.int .i64 x.ref.t) ∧ w.cell? ⟨g, o + i * 6 + 3, none⟩ = some (.int .i64 x.ref.s) ∧ w.cell? ⟨g, o + i * 6 + 4, none⟩ = some (.int .i32 x.rune) ∧ w.cell? ⟨g, o + i * 6 + 5, none⟩ = some (.int .i64 x.st) := by
  obtain ⟨g, o, c, rfl, _, _, hg, hc⟩ := h.one hn
  exact ⟨g, o, c, rfl, hg, fun i x hx => ⟨hc i x hx 0 _ rfl, hc i x hx 1 _ rfl, hc i x hx 2 _ rfl, hc i x hx 3 _ rfl, hc i x hx 4 _ rfl, hc i x hx 5 _ rfl⟩⟩
set_option maxRecDepth 100000 in
set_option maxHeartbeats 4000000 in
theorem allp_any {w : World} {L : List Nd} {pl : Nat} {v : Value} (hb : L.length ≤ 1000000) (k : FuncId) (caps : Array Value) (I : Nat → World → Prop) (Z : World → Prop)
    (hrd : ∀ i w, I i w → w.cell? ⟨pl, 0, none⟩ = some v ∧ SlAt nodeE w v L) (hgr : ∀ i w w', I i w → Kept (fun _ => False) w w' → I i w')
    (hy : ∀ i x w, L[i]? = some x → I i w → Calls Try.prog k (#[idV x.id, .int .i32 x.rune] ++ caps) w fun e w' => ∃ b, e = .returned (.bool b) ∧ (b = true → I (i + 1) w') ∧ (b = false → Z w'))
    (hen : ∀ args w, Sem.run Try.prog (callFunc k args) w = .ok (.enter k args) w) (h : I 0 w) :
    Calls Try.prog 70 #[.func (.func k) #[] caps, .pointer (some ⟨pl, 0, none⟩)] w fun e w' => e = .returned (.tuple #[]) ∧ (I L.length w' ∨ Z w') := by
  obtain ⟨x0, hs0⟩ := hrd 0 w h
  obtain ⟨a, c, rfl, _, _⟩ := hs0.sl
  have RD := Lib.hid hrd
  have GR := Lib.hid hgr
  have HY := Lib.hid hy
  have H0 := Lib.hid h
  clear hrd hgr hy hs0 h
  go_enter Try.func70, Try.ntmps70
  go_wp2_with fail
  go_loopw [7] (fun iv wr => ∃ j : Nat, iv = .int .i64 j ∧ j ≤ L.length ∧ I j wr) (fun iv _ => L.length - (intOf iv).toNat)
  case atStart => exact ⟨0, rfl, Nat.zero_le _, H0.out⟩
  case round =>
    obtain ⟨j, rfl, hj, hI⟩ := hrel
    have hj0 : (0 : Int) ≤ j := by omega
    by_cases hlt : j < L.length
    case neg =>
      have hnl : ¬ (j : Int) < L.length := by omega
      go_wp2_with fail
      go_end0
      exact ⟨rfl, .inl (by rw [show j = L.length by omega] at hI; exact hI)⟩
    case pos =>
      have hltI : (j : Int) < L.length := by omega
      obtain ⟨r, hr⟩ := get_of_lt hlt
      obtain ⟨_, hs1⟩ := RD.out _ _ hI
      obtain ⟨g, o, c', hv, hglt, hc⟩ := SlAt.node hs1 (by omega)
      cases hv
      obtain ⟨c0, c1, c2, c3, c4, c5⟩ := hc j r hr
      have hcall := HY.out j r (wr.alloc (.cells #[.int .i64 r.id.t, .int .i64 r.id.s, .int .i64 r.ref.t, .int .i64 r.ref.s, .int .i32 r.rune, .int .i64 r.st] 59)) hr (GR.out _ _ _ hI ((Kept.refl _ _).alloc _))
      unfold idV at hcall
      have R := Lib.hid hr
      clear hr hc hs1 hI
      go_wp2_with fail
      refine hcall.mono ?_
      rintro e w2 ⟨bb, rfl, ht, hf⟩
      cases bb with
      | true =>
        have T := Lib.hid (ht rfl)
        clear ht hf
        go_wp2_with fail
        go_roundw
        case rel => exact ⟨j + 1, by go_num, by omega, T.out⟩
        case measure => simp [intOf]; omega
      | false =>
        have T := Lib.hid (hf rfl)
        clear ht hf
        go_wp2_with fail
        refine bodyPost_ret (results_none rfl _ _ _) rfl ?_
        exact ⟨rfl, .inr T.out⟩
def nodeEnc (L : List Nd) (i : Nat) : Array Value := #[.agg #[.int .i64 (nth L i).id.t, .int .i64 (nth L i).id.s], .int .i32 (nth L i).rune]
set_option maxRecDepth 100000 in
set_option maxHeartbeats 8000000 in
theorem all2_iter {L : List Nd} {pl : Nat} {v : Value} (hb : L.length ≤ 1000000) :
    IterOk Fence.wide 5 Try.prog 70 #[.pointer (some ⟨pl, 0, none⟩)] L.length (nodeEnc L) (fun w => w.cell? ⟨pl, 0, none⟩ = some v ∧ SlAt nodeE w v L) := by
  intro yl I Z X0 w hrd hgr hgz hy h0
  obtain ⟨x0, hs0⟩ := hrd _ _ w h0
  obtain ⟨a, c, rfl, _, _⟩ := hs0.sl
  have RD := Lib.hid hrd
  have GR := Lib.hid hgr
  have HY := Lib.hid hy
  have H0 := Lib.hid h0
  clear hrd hgr hgz hy hs0 h0
  refine callsIn_of_wp Try.func70 rfl trivial ?_ rfl
  simp only [Try.ntmps70, List.size_toArray, List.length_cons, List.length_nil, Nat.reduceAdd, Nat.reduceSub, Array.replicate_succ, Array.replicate_zero, List.push_toArray, List.append_toArray, List.nil_append, List.cons_append]
  gi_wp2
  gi_loopw [7] (fun iv wr => ∃ j : Nat, iv = .int .i64 j ∧ j ≤ L.length ∧ ∃ X, I j X wr) (fun iv _ => L.length - (intOf iv).toNat)
  case atStart => exact ⟨0, rfl, Nat.zero_le _, _, H0.out⟩
  case round =>
    obtain ⟨j, rfl, hj, X, hI⟩ := hrel
    have hj0 : (0 : Int) ≤ j := by omega
    by_cases hlt : j < L.length
    case neg =>
      have hnl : ¬ (j : Int) < L.length := by omega
      gi_wp2
      go_end0
      exact ⟨⟨_, rfl⟩, .inl ⟨X, by rw [show j = L.length by omega] at hI; exact hI⟩⟩
    case pos =>
      have hltI : (j : Int) < L.length := by omega
      obtain ⟨r, hr⟩ := get_of_lt hlt
      obtain ⟨_, hs1⟩ := RD.out _ _ _ hI
      obtain ⟨g, o, c', hv, hglt, hc⟩ := SlAt.node hs1 (by omega)
      cases hv
      obtain ⟨c0, c1, c2, c3, c4, c5⟩ := hc j r hr
      have hcall := HY.out j _ (wr.alloc (.cells #[.int .i64 r.id.t, .int .i64 r.id.s, .int .i64 r.ref.t, .int .i64 r.ref.s, .int .i32 r.rune, .int .i64 r.st] 59)) hlt (GR.out _ _ _ _ hI ((Kept.refl _ _).alloc _))
      unfold nodeEnc at hcall
      rw [nth_some hr] at hcall
      obtain ⟨fn, tmps, assign, body, hy, hR⟩ := hcall
      have HRR := Lib.hid hR
      clear hr hc hs1 hI hR
      gi_wp2
      refine HRR.out.mono ?_
      rintro e w2 ⟨bb, rfl, _, _, ht, hf⟩
      cases bb with
      | true =>
        have T := Lib.hid (ht rfl)
        clear ht hf hy c0 c1 c2 c3 c4 c5
        gi_wp2
        go_roundw
        case rel => exact ⟨j + 1, by go_num, by omega, _, T.out⟩
        case measure => simp [intOf]; omega
      | false =>
        have T := Lib.hid (hf rfl)
        clear ht hf hy c0 c1 c2 c3 c4 c5
        gi_wp2
        refine bodyPost_ret (results_none rfl _ _ _) rfl ?_
        exact ⟨⟨_, rfl⟩, .inr ⟨_, T.out⟩⟩
end Go.Proofs.Ytlafodnaifghcaa.Tr
namespace Go.Proofs.Ytlafodnaifghcaa
open Go.RowKit
section
variable {P : Program} {w : World}
theorem strCells_bytes (s : ByteArray) : Lib.strCells s = byteCells s := rfl
theorem append_string_at (t u ty e : TypeId) (i : TypeInfo) (ht : P.underlying t = some (.slice e)) (hu : P.underlying u = some .string) (hi : P.info? e = some i) (hz : i.zero = some (.int .u8 0)) (hsize : i.size = 1) (hby : i.bytes = 1)
    {base n : Nat} {v v' : Value} {w' : World} {xs : List Value} (hown : w.ownsRow base e 1 v n xs) (s : ByteArray) (hn : n + s.size ≤ 1000000000) (hr : (Builtin.append_ #[t, u] ty #[v, .string s]).run P w = .ok v' w') :
    v'.ownBlock = v.ownBlock ∨ v'.ownBlock = some w.heap.size := by
  have hs : Src P i.size u (.string s) s.size (byteCells s) w := by rw [hsize]; exact Src.ofString w hu s
  have hcap : ∀ old, old < n + s.size → Builtin.nextslicecap (n + s.size) old * i.bytes ≤ 281474976710656 := fun old h => by
    have := nextslicecap_le h
    rw [hby]
    omega
  rcases hown.2 with ⟨rfl, rfl⟩ | ⟨g, cap, cur, rfl, hb, hg, h1, h2, h3, h4⟩
  · rcases Nat.eq_zero_or_pos s.size with h0 | h0
    · have hrun : (Builtin.append_ #[t, u] ty #[.slice none 0 0, .string s]).run P w = .ok (.slice none 0 0) w := by
        have hc := hs.cells
        have hl := hs.len w
        rw [h0] at hc hl
        simp [Builtin.append_, run_underlying ht, run_underlying hu, sizeOf, typeInfo, hi, hl, hc]
      rw [hr] at hrun
      injection hrun with e1 e2
      left; rw [e1]
    · have hrun := run_append_grow_src (P := P) (w := w) t u ty e i _ ht hi hz none 0 0 [] (run_firstCells_none _ _ _ _ _) (.string s) s.size (byteCells s) hs (by omega) (by omega) (hcap 0 (by omega))
      rw [hr] at hrun
      injection hrun with e1 e2
      right; rw [e1]; rfl
  · have hblk : Blk w g e cur := hg
    by_cases hroom : n + s.size ≤ cap
    · have hl : (byteCells s).length = s.size := byteCells_length s
      have hrun := run_append_room_src (P := P) (w := w) t u ty e i ht hi g 0 n cap (.string s) s.size (byteCells s) hs hroom (fun j hj => by
        rw [hblk.cell, hsize]
        have : n + j < cur.size := by omega
        simp [this]) (fun j _ => hblk.frozen _)
      rw [hr] at hrun
      injection hrun with e1 e2
      left; rw [e1]; rfl
    · have hold : (Builtin.firstCells i.size n (.slice (some ⟨g, 0, none⟩) n cap)).run P w.drew = .ok xs.toArray w.drew := by
        rw [hsize]
        refine run_firstCells_some _ 1 n ⟨g, 0, none⟩ n cap xs hown.1 (fun j x hx => ?_)
        rw [Addr.add_lit, Nat.zero_add]
        show w.cell? ⟨g, j, none⟩ = some x
        rw [hblk.cell]
        rw [← h4, List.getElem?_take] at hx
        split at hx
        · simpa using hx
        · cases hx
      have hrun := run_append_grow_src (P := P) (w := w) t u ty e i _ ht hi hz (some ⟨g, 0, none⟩) n cap xs hold (.string s) s.size (byteCells s) hs (by omega) (by omega) (hcap cap (by omega))
      rw [hr] at hrun
      injection hrun with e1 e2
      right; rw [e1]; rfl
theorem wpList_append_string_at {ops : Array Oper} {rest : List Oper} {o : Oper} {a : Act} {Q : Exit → Act → World → Prop} (hgd : o.guard = none) (sl x : Operand) (t u : TypeId)
    (ho : o.op = .call { callee := .builtin .append, args := #[sl, x], argTypes := #[t, u] })
    (base : Nat) (e : TypeId) (i : TypeInfo) (ht : P.underlying t = some (.slice e)) (hu : P.underlying u = some .string) (hi : P.info? e = some i) (hz : i.zero = some (.int .u8 0))
    (hsize : i.size = 1) (hby : i.bytes = 1)
    (v : Value) (n : Nat) (xs : List Value) (hs : a.eval sl = v) (hown : w.ownsRow base e 1 v n xs) (s : ByteArray) (hx : a.eval x = .string s)
    (hn : n + s.size ≤ 1000000000) (hbase : base ≤ w.heap.size)
    (h : ∀ v' w', w'.ownsRow base e 1 v' (n + s.size) (xs ++ Lib.strCells s) → w.grownBy w' v.ownBlock → (v'.ownBlock = v.ownBlock ∨ v'.ownBlock = some w.heap.size) → wpList P ops Q rest (a.put o.dst v') w') : wpList P ops Q (o :: rest) a w := by
  refine wpList_plain hgd fun K hK => ?_
  obtain ⟨v', w', hr, h2, h3, h4⟩ := Lib.run_append_own_string (P := P) w base t u o.type e i ht hu hi hz hsize hby v n xs hown s (by unfold maxLen; omega) (by omega) hbase
  have hat := append_string_at t u o.type e i ht hu hi hz hsize hby hown s hn hr
  unfold Oper.wp execOp
  simp only [ho, resolve, invoke, builtin, Sem.run_bind, Sem.run_pure, Result.andThen_ok, List.map_toArray, List.map_cons, List.map_nil, hs, hx, hr]
  exact hK _ _ (h v' w' h2 h3 hat)
end
end Go.Proofs.Ytlafodnaifghcaa
namespace Go.Proofs.Ytlafodnaifghcaa.Tr
open Go.RowKit
theorem kept_one (w : World) (p : Addr) (v : Value) : Kept (· = p.block) w (w.setCell p v) := (Kept.refl (· = p.block) w).setCell (fun _ => rfl) v
/-- a builder in block b: its row v holds bs -/
structure Bld (w : World) (b base : Nat) (v : Value) (bs : List UInt8) : Prop where
  at_ : ∃ p, (p = Value.pointer none ∨ p = .pointer (some ⟨b, 0, none⟩)) ∧ Blk w b 100 #[p, v]
  row : w.ownsRow base 5 1 v bs.length (Lib.byteCells bs)
set_option maxRecDepth 100000 in
set_option maxHeartbeats 1000000 in
theorem copyCheck_any {w : World} {b base : Nat} {v : Value} {bs : List UInt8} (h : Bld w b base v bs) : Calls Try.prog 71 #[.pointer (some ⟨b, 0, none⟩)] w fun e w' =>
    e = .returned (.tuple #[]) ∧ Blk w' b 100 #[.pointer (some ⟨b, 0, none⟩), v] ∧ Kept (· = b) w w' ∧ w'.heap.size = w.heap.size := by
  obtain ⟨p, hp, hb⟩ := h.at_
  have c0 : w.cell? ⟨b, 0, none⟩ = some p := hb.cell' rfl
  have f0 := hb.frozen 0
  have HB := Lib.hid hb
  clear h hb
  have hsh : w.shape? b = some (100, 2) := by have h9 : w.heap[b]? = some (.cells #[p, v] 100 (0, 0)) := HB.out; simp [World.shape?, h9]
  obtain ⟨j, hj, hjs⟩ : ∃ j, Try.prog.info? 100 = some j ∧ j.size = 2 := Option.map_eq_some_iff.1 (by kernel_rfl : (Try.prog.info? 100).map (·.size) = some 2)
  have h1 : (convert 97 148 (.pointer (some ⟨b, 0, none⟩))).run Try.prog w = .ok (.pointer (some ⟨b, 0, none⟩)) w := Lib.run_to_unsafe w ⟨b, 0, none⟩ Try.underlying97 Try.underlying148 hj (by rw [hjs]; decide) hsh (Nat.zero_lt_succ 1)
  have h3 : (convert 148 97 (.pointer (some ⟨b, 0, none⟩))).run Try.prog w = .ok (.pointer (some ⟨b, 0, none⟩)) w := Lib.run_from_unsafe w ⟨b, 0, none⟩ Try.underlying148 Try.underlying97 hj hsh (by kernel_rfl)
  have h2 : (callFunc 85 #[.pointer (some ⟨b, 0, none⟩)]).run Try.prog w = .ok (.value (.pointer (some ⟨b, 0, none⟩))) w := by
    rw [run_callFunc_extern Try.func85 (by kernel_rfl) (by kernel_rfl) (by kernel_rfl) (e := Extern.AbiNoEscape.same) (by kernel_rfl), Lib.run_noEscape]
    rfl
  clear hjs hsh
  rcases hp with rfl | rfl
  · go_enter Try.func71, Try.ntmps71
    go_wp2
    go_end0
    exact ⟨rfl, HB.out.set_ 0 _, kept_one w ⟨b, 0, none⟩ _, World.size_setCell ..⟩
  · have hne : (binOp .neq 97 (.pointer (some ⟨b, 0, none⟩)) (.pointer (some ⟨b, 0, none⟩))).run Try.prog w = .ok (.bool false) w := Lib.run_neq_ptr_same w ⟨b, 0, none⟩ Try.underlying97 hj
    clear h1 h2 h3 hj
    go_enter Try.func71, Try.ntmps71
    go_wp2
    go_end0
    exact ⟨rfl, HB.out, Kept.refl _ _, rfl⟩
theorem info_u8 : (Try.prog.info? 5).map (fun i => (i.zero, i.size, i.bytes)) = some (some (.int .u8 0), 1, 1) := by kernel_rfl
theorem bld_owns {w : World} {base n : Nat} {v : Value} {xs : List Value} (h : w.ownsRow base 5 1 v n xs) : ∃ a c, v = .slice a n c := by
  rcases h.2 with ⟨rfl, rfl⟩ | ⟨g, cap, cur, rfl, _⟩
  · exact ⟨_, _, rfl⟩
  · exact ⟨_, _, rfl⟩
theorem bld_keep {S : Nat → Prop} {w w' : World} {base n size : Nat} {e : TypeId} {v : Value} {xs : List Value} (h : w.ownsRow base e size v n xs) (hk : Kept S w w') (hs : ∀ b, v.ownBlock = some b → ¬ S b) : w'.ownsRow base e size v n xs := by
  refine ⟨h.1, ?_⟩
  rcases h.2 with h' | ⟨g, cap, cur, rfl, hb, hg, r⟩
  · exact .inl h'
  · exact .inr ⟨g, cap, cur, rfl, hb, hk.blk (t := e) (cs := cur) (hs g rfl) hg, r⟩
theorem bld_ne {w : World} {base n b : Nat} {v : Value} {xs : List Value} {cs : Array Value} (h : w.ownsRow base 5 1 v n xs) (hb : Blk w b 100 cs) : ∀ g, v.ownBlock = some g → ¬ g = b := by
  intro g hg e
  rcases h.2 with ⟨rfl, _⟩ | ⟨g', cap, cur, rfl, _, h2, _⟩
  · cases hg
  · cases hg
    subst e
    exact Blk.ne_ (t := 5) (cs := cur) h2 hb (by decide) rfl
set_option maxRecDepth 100000 in
set_option maxHeartbeats 2000000 in
theorem bld_write {w : World} {b base : Nat} {v : Value} {bs : List UInt8} (h : Bld w b base v bs) (s : ByteArray) (hn : bs.length + s.size ≤ 1000000000) (hbase : base ≤ w.heap.size) :
    Calls Try.prog 45 #[.pointer (some ⟨b, 0, none⟩), .string s] w fun e w' => e = .returned (.tuple #[.int .i64 s.size, .nilIface]) ∧
      ∃ v', Bld w' b base v' (bs ++ s.data.toList) ∧ Kept (fun x => x = b ∨ v.ownBlock = some x) w w' ∧ (v'.ownBlock = v.ownBlock ∨ v'.ownBlock = some w.heap.size) := by
  have hcc := copyCheck_any h
  obtain ⟨i, hi, hz0, hz1, hz2⟩ := info_parts info_u8
  obtain ⟨p, _, hb⟩ := h.at_
  have hne := bld_ne h.row hb
  have H := Lib.hid h
  have NE := Lib.hid hne
  have HI := Lib.hid (And.intro hi (And.intro hz0 (And.intro hz1 hz2)))
  clear h hb hne hi hz0 hz1 hz2
  go_enter Try.func45, Try.ntmps45
  go_wp2_with (first | (go_at_call 71; refine hcc.mono ?_; clear hcc; rintro e w1 ⟨rfl, hb1, hk1, hz1⟩; have c1 : w1.cell? ⟨b, 1, none⟩ = some v := hb1.cell' rfl; have hs1 := hk1.size; have HB1 := Lib.hid hb1; have HK1 := Lib.hid hk1; have HR1 := Lib.hid (bld_keep H.out.row hk1 (fun g hg e => NE.out g hg e)); have HBS : Hid (base ≤ w1.heap.size) := Lib.hid (Nat.le_trans hbase hs1); have HZ : Hid (w1.heap.size = w.heap.size) := Lib.hid hz1; clear hb1 hk1 hs1 hz1) | (at_builtin; (refine wpList_append_string_at rfl (.tmp 12) (.tmp 13) 98 9 rfl base 5 i Try.underlying98 Try.underlying9 HI.out.1 HI.out.2.1 HI.out.2.2.1 HI.out.2.2.2 v _ _ rfl HR1.out s rfl hn HBS.out ?_); intro v2 w2 ho2 hg2 hb2; obtain ⟨a2, c2, rfl⟩ := bld_owns ho2; have HB2 := Lib.hid (HB1.out.grown hg2 (fun e => NE.out b (by rw [e]) rfl)); have d1 : w2.cell? ⟨b, 1, none⟩ = some v := HB2.out.cell' rfl; have f1 := HB2.out.frozen 1; have HO2 := Lib.hid ho2; have HG2 := Lib.hid hg2; have HBB := Lib.hid hb2; clear ho2 hg2 hb2))
  go_ret2
  refine ⟨rfl, _, { at_ := ⟨_, .inr rfl, HB2.out.set_ 1 _⟩, row := ?_ }, ?_, ?_⟩
  · have hc := kept_one w2 ⟨b, 1, none⟩ (.slice a2 (bs.length + s.size) c2)
    have h5 := bld_keep HO2.out hc (fun g hg e => by
      exact bld_ne HO2.out HB2.out g hg e)
    rw [List.length_append, Lib.byteCells_append, ← Lib.strCells_eq]
    exact h5
  · have k2 : Kept (fun x => x = b ∨ v.ownBlock = some x) w w2 := (HK1.out.mono fun _ _ h => .inl h).trans (Kept.grown (Kept.refl (fun x => v.ownBlock = some x) w1) HG2.out (fun k e _ => e)) fun _ _ h => .inr h
    exact k2.trans (kept_one w2 ⟨b, 1, none⟩ _) fun _ _ h => .inl h
  · rcases HBB.out with h5 | h5
    · exact .inl h5
    · right; rw [h5]; exact congrArg some HZ.out
theorem kept_freeze (w : World) (p : Addr) (n : Nat) : Kept (· = p.block) w (w.freeze p n) := by
  unfold World.freeze
  split
  · exact Kept.refl _ _
  · exact ⟨rfl, rfl, rfl, by simp, fun k _ hk => by
      show (w.heap.modify _ _)[k]? = _
      rw [Array.getElem?_modify, if_neg (fun e => hk e.symm)]⟩
/-- what is built, as a text: a builder that holds at least one byte -/
theorem bld_string {w : World} {b base : Nat} {v : Value} {bs : List UInt8} (h : Bld w b base v bs) (h0 : bs ≠ []) :
    Calls Try.prog 47 #[.pointer (some ⟨b, 0, none⟩)] w fun e w' => e = .returned (.string ⟨bs.toArray⟩) ∧ Kept (fun x => v.ownBlock = some x) w w' := by
  obtain ⟨p, _, hb⟩ := h.at_
  have hl0 : bs.length ≠ 0 := by simpa using h0
  obtain ⟨g, cap, cur, rfl, hbg, hg, hnc, hcm, hcs, htake⟩ : ∃ g cap cur, v = .slice (some ⟨g, 0, none⟩) bs.length cap ∧ base ≤ g ∧ w.heap[g]? = some (.cells cur 5 (0, 0)) ∧ bs.length ≤ cap ∧ cap ≤ maxLen ∧ cur.size = cap * 1 ∧ cur.toList.take (bs.length * 1) = Lib.byteCells bs := by
    rcases h.row.2 with ⟨_, hz⟩ | ⟨g, cap, cur, hv, r⟩
    · exact absurd hz hl0
    · exact ⟨g, cap, cur, hv, r⟩
  have c1 : w.drew.cell? ⟨b, 1, none⟩ = some (.slice (some ⟨g, 0, none⟩) bs.length cap) := hb.cell' rfl
  have hSD : (Builtin.unsafeSliceData_ #[98] 133 #[.slice (some ⟨g, 0, none⟩) bs.length cap]).run Try.prog w.drew = .ok (.pointer (some ⟨g, 0, none⟩)) w.drew := Lib.run_unsafeSliceData_row _ _ _ _ _ _ (by omega)
  have hUS : (Builtin.unsafeString_ #[133, 3] 9 #[.pointer (some ⟨g, 0, none⟩), .int .i64 bs.length]).run Try.prog w.drew = .ok (.string ⟨bs.toArray⟩) (w.drew.freeze ⟨g, 0, none⟩ bs.length) := by
    refine Lib.run_unsafeString_row w.drew 133 3 9 5 Try.underlying133 (by kernel_rfl) g cur.size (by have hg' : w.drew.heap[g]? = some (.cells cur 5 (0, 0)) := hg; simp [World.shape?, hg']) bs h0 (by omega) (by unfold maxLen at hcm; omega) ?_
    intro j x hx
    have hcj : cur[j]? = some (.int .u8 x.toNat) := by
      have h1 : (cur.toList.take (bs.length * 1))[j]? = some (.int .u8 x.toNat) := by rw [htake]; simp [Lib.byteCells, hx]
      rw [List.getElem?_take] at h1
      split at h1
      · simpa using h1
      · cases h1
    have hB : Blk w.drew g 5 cur := hg
    have h2 := hB.cell' hcj
    have e : ((⟨g, 0, none⟩ : Addr).add j) = ⟨g, j, none⟩ := by simp [Addr.add]; exact fun h => h.symm
    rw [e]; exact h2
  clear h hb hl0 hg hnc hcm hcs htake
  go_enter Try.func47, Try.ntmps47
  go_wp2
  go_region
  all_goals
    go_wp2
    go_ret
    exact ⟨rfl, ((Kept.refl (fun x => some g = some x) w).drew).trans ((kept_freeze w.drew ⟨g, 0, none⟩ bs.length).mono (fun k _ e => by rw [e])) (fun _ _ h => h)⟩
/-- nothing was built -/
theorem bld_string0 {w : World} {b base : Nat} (h : Bld w b base (.slice none 0 0) []) :
    Calls Try.prog 47 #[.pointer (some ⟨b, 0, none⟩)] w fun e w' => e = .returned (.string ⟨#[]⟩) ∧ Kept (fun _ => False) w w' := by
  obtain ⟨p, _, hb⟩ := h.at_
  have c1 : w.drew.cell? ⟨b, 1, none⟩ = some (.slice none 0 0) := hb.cell' rfl
  have hSD : (Builtin.unsafeSliceData_ #[98] 133 #[.slice none 0 0]).run Try.prog w.drew = .ok (.pointer none) w.drew := Lib.run_unsafeSliceData_nil w.drew ..
  have hUS : (Builtin.unsafeString_ #[133, 3] 9 #[.pointer none, .int .i64 0]).run Try.prog w.drew = .ok (.string .empty) w.drew := Lib.run_unsafeString_none w.drew ..
  clear h hb
  go_enter Try.func47, Try.ntmps47
  go_wp2
  go_region
  all_goals
    go_wp2
    go_ret
    exact ⟨rfl, (Kept.refl (fun _ => False) w).drew⟩
end Go.Proofs.Ytlafodnaifghcaa.Tr
