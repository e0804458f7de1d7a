/- strings.Builder.WriteRune; glyph.Mend, walked. Arguments opened: a script's steps, runs, nodes, pieces, numbers. -/
import Derived.Test.YtlafodnaifghcaaK23
import Derived.Test.YtlafodnaifghcaaK7
import Derived.Test.YtlafodnaifghcaaK8
import Derived.Test.YtlafodnaifghcaaChecked
import Derived.Deep.Slices
import Derived.Deep.Fields
import Derived.ChangeSame
import Derived.Lib.SmallJoins
import Derived.OpenShut
namespace Go.Proofs.Ytlafodnaifghcaa.Tr
open Go.RowKit Go.Proofs.Ytlafodnaifghcaa.St Go.Proofs.Ytlafodnaifghcaa.Gl Go.Proofs.Ytlafodnaifghcaa
set_option maxRecDepth 100000 in
set_option maxHeartbeats 2000000 in
theorem bld_rune {w : World} {b base : Nat} {v : Value} {bs : List UInt8} (h : Bld w b base v bs) (r : Int) (hr : isRuneP r) (hn : bs.length + 4 ≤ 1000000000) (hbase : base ≤ w.heap.size) :
    Calls Try.prog 50 #[.pointer (some ⟨b, 0, none⟩), .int .i32 r] w fun e w' => (∃ n : Int, e = .returned (.tuple #[.int .i64 n, .nilIface])) ∧
      ∃ v', Bld w' b base v' (bs ++ encB r) ∧ Kept (fun x => x = b ∨ v.ownBlock = some x) w w' := by
  have hr2 : -2147483648 ≤ r ∧ r ≤ 2147483647 := by unfold isRuneP at hr; omega
  have hcc := copyCheck_any h
  obtain ⟨p, _, hb⟩ := h.at_
  have hne := bld_ne h.row hb
  obtain ⟨a0, c0, rfl⟩ := bld_owns h.row
  have H := Lib.hid h
  have NE := Lib.hid hne
  have HN := Lib.hid (And.intro hn hbase)
  have HR := Lib.hid hr2
  clear h hb hne hn hbase hr hr2
  go_enter Try.func50, Try.ntmps50
  go_wp2_with (go_at_call 71; refine hcc.mono ?_; clear hcc; rintro e w1 ⟨rfl, hb1, hk1, hz1⟩; have c1 : w1.cell? ⟨b, 1, none⟩ = some (.slice a0 bs.length c0) := hb1.cell' rfl; have hs1 := hk1.size; have HB1 := Lib.hid hb1; have HK1 := Lib.hid hk1; have HR1 := Lib.hid (bld_keep H.out.row hk1 (fun g hg e => NE.out g hg e)); have HBS : Hid (base ≤ w1.heap.size) := Lib.hid (Nat.le_trans HN.out.2 hs1); have HZ : Hid (w1.heap.size = w.heap.size) := Lib.hid hz1; clear hb1 hk1 hs1 hz1)
  all_goals go_wp2_with (go_at_call 73; refine (Any.utf8_AppendRune_plain layRune (by kernel_rfl) base _ bs.length (Lib.byteCells bs) r HR.out.1 HR.out.2 _ HR1.out (by have := HN.out.1; omega) HBS.out).mono ?_; rintro e w2 ⟨v2, rfl, ho2, o, hg2⟩; obtain ⟨a2, c2, rfl⟩ := bld_owns (n := bs.length + (Lib.runeCells r).length) ho2; have HG2 : Hid (Kept (fun x => Value.ownBlock (.slice a0 bs.length c0) = some x) w1 w2) := Lib.hid (Kept.grown ((Kept.refl (fun x => Value.ownBlock (.slice a0 bs.length c0) = some x) w1).alloc o) hg2 (fun k e _ => e)); have HB2 := Lib.hid (HG2.out.blk (fun e => NE.out b (by rw [e]) rfl) HB1.out); have d1 : w2.cell? ⟨b, 1, none⟩ = some (.slice a0 bs.length c0) := HB2.out.cell' rfl; have f1 := HB2.out.frozen 1; have HO2 := Lib.hid ho2; clear ho2 hg2)
  go_ret2
  have e1 : Lib.runeCells r = Lib.byteCells (encB r) := by rw [← enc_same]; exact (Lib.byteCells_encodeRune r).symm
  have e2 : (Lib.runeCells r).length = (encB r).length := by rw [← enc_same]; exact Lib.runeCells_length r
  have ho : w2.ownsRow base 5 1 (.slice a2 (bs.length + (Lib.runeCells r).length) c2) (bs ++ encB r).length (Lib.byteCells (bs ++ encB r)) := by
    rw [List.length_append, Lib.byteCells_append, ← e1, ← e2]
    exact HO2.out
  refine ⟨⟨_, rfl⟩, _, { at_ := ⟨_, .inr rfl, HB2.out.set_ 1 _⟩, row := bld_keep ho (kept_one w2 ⟨b, 1, none⟩ _) (fun g hg e => bld_ne ho HB2.out g hg e) }, ?_⟩
  exact ((HK1.out.mono fun _ _ h => .inl h).trans (HG2.out.mono fun _ _ h => .inr h) fun _ _ h => h).trans (kept_one w2 ⟨b, 1, none⟩ _) fun _ _ h => .inl h
def mendB (s : ByteArray) (i : Nat) : List UInt8 := (runesL s i).flatMap encB
/-- the text mended -/
def mend (s : ByteArray) : ByteArray := runeText (runesL s 0)
theorem mendB_next {s : ByteArray} {p : Nat} (h : p < s.size) : mendB s p = encB ((Utf8.decode s p).1 : Int) ++ mendB s (p + stepW s p) := by
  unfold mendB
  rw [runes_next h, List.flatMap_cons]
theorem mend_eq (s : ByteArray) : (⟨(mendB s 0).toArray⟩ : ByteArray) = mend s := rfl
structure MenJ (w : World) (b q : Nat) (s : ByteArray) (p : Nat) (W : World) : Prop where
  bld : ∃ v bs, Bld W b w.heap.size v bs ∧ bs ++ mendB s p = mendB s 0 ∧ (p = 0 → v = .slice none 0 0) ∧ (p ≠ 0 → bs ≠ []) ∧ bs.length ≤ 4 * p
  iter : W.heap[q]? = some (.stringIter s p)
  le : p ≤ s.size
  kept : Kept (fun _ => False) w W
theorem mend_start (w : World) (s : ByteArray) : MenJ w w.heap.size (w.heap.size + 1) s 0 ((w.alloc (.cells #[.pointer none, .slice none 0 0] 100 (0, 0))).iter s 0) := by
  have h1 : Blk ((w.alloc (.cells #[.pointer none, .slice none 0 0] 100)).iter s 0) w.heap.size 100 #[.pointer none, .slice none 0 0] := (Blk.new ..).alloc _
  have h2 : ((w.alloc (.cells #[.pointer none, .slice none 0 0] 100 (0, 0))).iter s 0).heap[w.heap.size + 1]? = some (.stringIter s 0) := by
    have e : w.heap.size + 1 = (w.alloc (.cells #[.pointer none, .slice none 0 0] 100 (0, 0))).heap.size := (World.size_alloc ..).symm
    rw [e]
    exact heap_alloc_new _ _
  exact ⟨⟨.slice none 0 0, [], ⟨⟨_, .inl rfl, h1⟩, World.ownsRow_nil ..⟩, rfl, fun _ => rfl, fun h => absurd rfl h, Nat.le_refl _⟩, h2, Nat.zero_le _, ((Kept.refl (fun _ => False) w).alloc _).alloc _⟩
theorem MenJ.step {w W : World} {b q p : Nat} {s : ByteArray} (h : MenJ w b q s p W) (hb : w.heap.size ≤ b) (hq : w.heap.size ≤ q ∧ q ≠ b) (hlt : p < s.size) (hs : s.size ≤ 100000) :
    Calls Try.prog 50 #[.pointer (some ⟨b, 0, none⟩), .int .i32 ((Utf8.decode s p).1 : Int)] (W.iterAt q s (p + stepW s p)) fun e W2 => (∃ n : Int, e = .returned (.tuple #[.int .i64 n, .nilIface])) ∧ MenJ w b q s (p + stepW s p) W2 := by
  obtain ⟨v, bs, hB, he, h0, h1, hl⟩ := h.bld
  have hkq : Kept (· = q) W (W.iterAt q s (p + stepW s p)) := kept_obj W q (.stringIter s (p + stepW s p))
  have hit : (W.iterAt q s (p + stepW s p)).heap[q]? = some (.stringIter s (p + stepW s p)) := Lib.iterAt_heap W q s p _ h.iter
  have hvq : ∀ g, v.ownBlock = some g → g ≠ q := by
    intro g hg e
    rcases hB.row.2 with ⟨rfl, _⟩ | ⟨g', cap, cur, rfl, _, h2, _⟩
    · cases hg
    · cases hg
      have e : g' = q := e
      rw [e, h.iter] at h2
      cases h2
  have hB2 : Bld (W.iterAt q s (p + stepW s p)) b w.heap.size v bs := hB.keep hkq (fun e => hq.2 e.symm) hvq
  have hsz := (h.kept.trans (S := fun _ => False) hkq (fun x hx e => by subst e; omega)).size
  refine (bld_rune hB2 _ (decode_rune s p) (by have := h.le; omega) hsz).mono ?_
  rintro e W2 ⟨hn, v', hB', hk⟩
  have hvl : ∀ g, v.ownBlock = some g → w.heap.size ≤ g := fun g hg => (owns_lt hB.row g hg).1
  refine ⟨hn, { bld := ⟨v', _, hB', ?_, ?_, ?_, ?_⟩, iter := ?_, le := stepW_in hlt, kept := ?_ }⟩
  · rw [List.append_assoc, ← mendB_next hlt, he]
  · intro e; have := stepW_pos s p; omega
  · intro _ e
    have := congrArg List.length e
    have h2 := encB_len ((Utf8.decode s p).1 : Int)
    simp at this
    have h3 := this.2
    rw [h3] at h2
    simp at h2
  · have h2 := encB_len ((Utf8.decode s p).1 : Int)
    have := stepW_pos s p
    rw [List.length_append]
    omega
  · have hlt2 : q < (W.iterAt q s (p + stepW s p)).heap.size := by
      rcases Nat.lt_or_ge q (W.iterAt q s (p + stepW s p)).heap.size with h' | h'
      · exact h'
      · rw [Array.getElem?_eq_none h'] at hit; cases hit
    rw [hk.block q hlt2 (by rintro (e | e); exact hq.2 e; exact hvq q e rfl)]
    exact hit
  · refine (h.kept.trans hkq (fun x hx e => by have e : x = q := e; subst e; omega)).trans hk (fun x hx e => ?_)
    rcases e with e | e
    · omega
    · have := hvl x e; omega
theorem MenJ.done {w W : World} {b q p : Nat} {s : ByteArray} (h : MenJ w b q s p W) (hlt : ¬ p < s.size) : Calls Try.prog 47 #[.pointer (some ⟨b, 0, none⟩)] W fun e w' => e = .returned (.string (mend s)) ∧ Kept (fun _ => False) w w' := by
  obtain ⟨v, bs, hB, he, h0, h1, hl⟩ := h.bld
  have hz : mendB s p = [] := by unfold mendB; rw [runes_end hlt]; rfl
  rw [hz, List.append_nil] at he
  by_cases hp : p = 0
  · have e1 : bs = [] := by rw [hp] at hl; exact List.eq_nil_of_length_eq_zero (by omega)
    rw [h0 hp, e1] at hB
    refine (bld_string0 hB).mono ?_
    rintro e w' ⟨rfl, hk⟩
    refine ⟨?_, h.kept.trans hk fun _ _ e => e⟩
    rw [← mend_eq, ← he, e1]
  · refine (bld_string hB (h1 hp)).mono ?_
    rintro e w' ⟨rfl, hk⟩
    refine ⟨by rw [he, mend_eq], h.kept.trans hk fun x hx e => ?_⟩
    have := (owns_lt hB.row x e).1
    omega
set_option maxRecDepth 100000 in
set_option maxHeartbeats 2000000 in
theorem mend_any (s : ByteArray) (hs : s.size ≤ 100000) (w : World) : Calls Try.prog 26 #[.string s] w fun e w' => e = .returned (.string (mend s)) ∧ Kept (fun _ => False) w w' := by
  have h0 := Lib.hid (mend_start w s)
  have HS := Lib.hid hs
  go_enter Try.func26, Try.ntmps26
  go_wp2_with fail
  obtain ⟨q, hq⟩ : ∃ q, w.heap.size + 1 = q := ⟨_, rfl⟩
  rw [hq] at h0
  rw [hq]
  have hq1 : w.heap.size < q := by omega
  clear hq
  go_loopw [5] (fun _ W => ∃ p : Nat, MenJ w w.heap.size q s p W) (fun _ W => s.size - W.iterPos q)
  case atStart => exact ⟨0, h0.out⟩
  case round =>
    obtain ⟨p, hc⟩ := hrel
    have hip : wr.iterPos q = p := by unfold World.iterPos; rw [hc.iter]
    by_cases hlt : p < s.size
    case pos =>
      have hnx := fun ty => Lib.run_next_any_at (P := Try.prog) wr q s p ty hc.iter hlt
      have hst : (Utf8.decode s p).2 = stepW s p := (decode_runeW s p).1
      rw [hst] at hnx
      have W1 := hc.step (Nat.le_refl _) ⟨by omega, by omega⟩ hlt HS.out
      have hle := stepW_in hlt
      have hpo := stepW_pos s p
      generalize (Utf8.decode s p).1 = r at *
      generalize stepW s p = st at *
      clear hst hc
      have HW := Lib.hid W1
      clear W1
      go_wp2_with (go_at_call 50; refine HW.out.mono ?_; rintro e W2 ⟨⟨n, rfl⟩, hj⟩; have HJ := Lib.hid hj; clear hj)
      go_roundw
      case rel => exact ⟨_, HJ.out⟩
      case measure =>
        have : W2.iterPos q = p + st := by unfold World.iterPos; rw [HJ.out.iter]
        rw [this, hip]
        omega
    case neg =>
      have hnx := fun ty => Lib.run_next_end_at (P := Try.prog) wr q s p ty hc.iter hlt
      have HD := Lib.hid (hc.done hlt)
      clear hc
      go_wp2_with (go_at_call 47; refine HD.out.mono ?_; rintro e W2 ⟨rfl, hk⟩; have HK := Lib.hid hk; clear hk)
      go_ret
      exact ⟨rfl, HK.out⟩
end Go.Proofs.Ytlafodnaifghcaa.Tr
namespace Go.Proofs.Ytlafodnaifghcaa.Tr
open Go.RowKit Go.Proofs.Ytlafodnaifghcaa.St
section
open Go.ChangeShapes Go.WideShapes Go.Deep
variable {H : Type} {enc : TypeId × Value → H} {w : World} {base b0 : Nat} {spare : Nat → Bool} {held : Bool} {P : Program}
theorem list_of_all {α : Type} : ∀ (n : Nat) (P : Nat → α → Prop), (∀ i, i < n → ∃ s, P i s) → ∃ L : List α, L.length = n ∧ ∀ (i : Nat) (s : α), L[i]? = some s → P i s
  | 0, _, _ => ⟨[], rfl, fun i s hs => by simp at hs⟩
  | n + 1, P, h => by
    obtain ⟨L, hL, hP⟩ := list_of_all n P (fun i hi => h i (by omega))
    obtain ⟨s, hs⟩ := h n (by omega)
    refine ⟨L ++ [s], by simp [hL], fun i t ht => ?_⟩
    by_cases hi : i < L.length
    · rw [List.getElem?_append_left hi] at ht; exact hP i t ht
    · rw [List.getElem?_append_right (by omega)] at ht
      have : i - L.length = 0 := by have := (List.getElem?_eq_some_iff.1 ht).1; simp at this; omega
      rw [this] at ht
      simp at ht
      subst ht
      have : i = n := by omega
      subst this
      exact hs
theorem open_rows {α : Type} (E : Enc α) {Q : α → Prop} {t e : TypeId} (ht : P.underlying t = some (.slice e)) (hC : P.cellsOf e = E.k)
    (hel : ∀ n cs d, DataW.trod enc P w base spare held n e cs = some d → ∃ x, cs = E.enc x ∧ Q x) {r : Reach} {v : Value} {d : DataW H} {ps : List MemPlace} (hv : Value.okWide P w r b0 t v)
    (h : DataW.Trod enc P w base spare held t v d ps) : ∃ L, SlAt E w v L ∧ ∀ x ∈ L, Q x := by
  obtain ⟨a, len, cap, rfl⟩ := okWide_slice ht hv
  obtain ⟨fuel, hf⟩ := h
  rcases open_slice ht hf with ⟨hcs, _⟩ | ⟨x, l, c, m, n, D, Pl, hcs, _, hl, hm, hmm, _, hi⟩
  · simp [Value.cells] at hcs
    obtain ⟨rfl, rfl, rfl⟩ := hcs
    exact ⟨[], .inl ⟨rfl, rfl⟩, fun x hx => by simp at hx⟩
  · simp [Value.cells] at hcs
    obtain ⟨rfl, rfl, rfl⟩ := hcs
    have hml : len ≤ m := by rw [hmm]; split <;> omega
    have hall : ∀ i, i < len → ∃ y : α, Q y ∧ ∀ (j : Nat) (u : Value), (E.enc y)[j]? = some u → w.cell? (x.add (i * E.k + j)) = some u := by
      intro i hil
      obtain ⟨cs, hc, hd⟩ := hi i (by omega)
      obtain ⟨y, rfl, hq⟩ := hel _ _ _ hd
      obtain ⟨_, _, hat⟩ := World.cells?_some hc
      refine ⟨y, hq, fun j u hu => ?_⟩
      have hj : j < P.cellsOf e := by rw [hC, ← E.len y]; exact (List.getElem?_eq_some_iff.1 hu).1
      have := hat j hj
      rw [Go.Deep.add_add, hC] at this
      rw [this, hu]
    obtain ⟨L, hL, hS⟩ := list_of_all len _ hall
    subst hL
    have hsp : L ≠ [] → x.spot = none := fun hne => by
      obtain ⟨y, r, rfl⟩ : ∃ y r, L = y :: r := by cases L with | nil => exact absurd rfl hne | cons y r => exact ⟨y, r, rfl⟩
      obtain ⟨_, h0⟩ := hS 0 y rfl
      have hlt : 0 < (E.enc y).length := by rw [E.len]; exact E.pos
      have := h0 0 _ (List.getElem?_eq_getElem hlt)
      rw [Nat.zero_mul, Nat.zero_add, Addr.add_zero'] at this
      exact World.cell?_spot this
    refine ⟨L, .inr ⟨x, cap, rfl, hl, hm, hsp, fun i y hy j u hu => ?_⟩, fun y hy => ?_⟩
    · have h1 := (hS i y hy).2 j u hu
      have hs := hsp (by rintro rfl; simp at hy)
      obtain ⟨g, o, s⟩ := x
      obtain rfl : s = none := hs
      rw [Addr.add_lit] at h1
      exact h1
    · obtain ⟨i, hi⟩ := List.getElem?_of_mem hy
      exact (hS i y hi).1
theorem open_part {α : Type} (E : Enc α) {Q : α → Prop} {t e : TypeId} (ht : P.underlying t = some (.slice e)) (hC : P.cellsOf e = E.k)
    (hel : ∀ n cs d, DataW.trod enc P w base spare held n e cs = some d → ∃ x, cs = E.enc x ∧ Q x) {n : Nat} {cs : List Value} {d : DataW H × List MemPlace}
    (h : DataW.trod enc P w base spare held n t cs = some d) : ∃ a len cap L, cs = [.slice a len cap] ∧ SlAt E w (.slice a len cap) L ∧ ∀ x ∈ L, Q x := by
  rcases open_slice ht h with ⟨rfl, _⟩ | ⟨x, len, cap, m, n, D, Pl, rfl, _, hl, hm, hmm, _, hi⟩
  · exact ⟨none, 0, 0, [], rfl, .inl ⟨rfl, rfl⟩, fun x hx => by simp at hx⟩
  · have hml : len ≤ m := by rw [hmm]; split <;> omega
    have hall : ∀ i, i < len → ∃ y : α, Q y ∧ ∀ (j : Nat) (u : Value), (E.enc y)[j]? = some u → w.cell? (x.add (i * E.k + j)) = some u := by
      intro i hil
      obtain ⟨cs, hc, hd⟩ := hi i (by omega)
      obtain ⟨y, rfl, hq⟩ := hel _ _ _ hd
      obtain ⟨_, _, hat⟩ := World.cells?_some hc
      refine ⟨y, hq, fun j u hu => ?_⟩
      have hj : j < P.cellsOf e := by rw [hC, ← E.len y]; exact (List.getElem?_eq_some_iff.1 hu).1
      have := hat j hj
      rw [Go.Deep.add_add, hC] at this
      rw [this, hu]
    obtain ⟨L, hL, hS⟩ := list_of_all len _ hall
    subst hL
    have hsp : L ≠ [] → x.spot = none := fun hne => by
      obtain ⟨y, r, rfl⟩ : ∃ y r, L = y :: r := by cases L with | nil => exact absurd rfl hne | cons y r => exact ⟨y, r, rfl⟩
      obtain ⟨_, h0⟩ := hS 0 y rfl
      have hlt : 0 < (E.enc y).length := by rw [E.len]; exact E.pos
      have := h0 0 _ (List.getElem?_eq_getElem hlt)
      rw [Nat.zero_mul, Nat.zero_add, Addr.add_zero'] at this
      exact World.cell?_spot this
    refine ⟨some x, L.length, cap, L, rfl, .inr ⟨x, cap, rfl, hl, hm, hsp, fun i y hy j u hu => ?_⟩, fun y hy => ?_⟩
    · have h1 := (hS i y hy).2 j u hu
      have hs := hsp (by rintro rfl; simp at hy)
      obtain ⟨g, o, s⟩ := x
      obtain rfl : s = none := hs
      rw [Addr.add_lit] at h1
      exact h1
    · obtain ⟨i, hi⟩ := List.getElem?_of_mem hy
      exact (hS i y hi).1
end
section
open Go.ChangeShapes Go.WideShapes Go.Deep
variable {H : Type} {enc : TypeId × Value → H} {w : World} {base b0 : Nat} {spare : Nat → Bool} {held : Bool}
theorem fields_id2 : ∃ f0 f1 : Field, Try.prog.underlying 27 = some (.struct #[f0, f1]) ∧ f0.offset = 0 ∧ f1.offset = 1 ∧ f0.type = 3 ∧ f1.type = 3 :=
  ⟨_, _, Try.underlying27, rfl, rfl, rfl, rfl⟩
theorem fields_run2 : ∃ f0 f1 : Field, Try.prog.underlying 61 = some (.struct #[f0, f1]) ∧ f0.offset = 0 ∧ f1.offset = 2 ∧ f0.type = 27 ∧ f1.type = 3 :=
  ⟨_, _, Try.underlying61, rfl, rfl, rfl, rfl⟩
theorem fields_step : ∃ f0 f1 f2 f3 f4 f5 f6 : Field, Try.prog.underlying 30 = some (.struct #[f0, f1, f2, f3, f4, f5, f6]) ∧ (f0.offset = 0 ∧ f1.offset = 1 ∧ f2.offset = 3 ∧ f3.offset = 5 ∧ f4.offset = 6 ∧ f5.offset = 7 ∧ f6.offset = 8) ∧
    f0.type = 3 ∧ f1.type = 27 ∧ f2.type = 27 ∧ f3.type = 9 ∧ f4.type = 28 ∧ f5.type = 3 ∧ f6.type = 3 :=
  ⟨_, _, _, _, _, _, _, Try.underlying30, ⟨rfl, rfl, rfl, rfl, rfl, rfl, rfl⟩, rfl, rfl, rfl, rfl, rfl, rfl, rfl⟩
theorem cells_int : Try.prog.cellsOf 3 = 1 := by kernel_rfl
theorem cells_string : Try.prog.cellsOf 9 = 1 := by kernel_rfl
theorem cells_id : Try.prog.cellsOf 27 = 2 := by kernel_rfl
theorem cells_run : Try.prog.cellsOf 61 = 3 := by kernel_rfl
theorem cells_runs : Try.prog.cellsOf 28 = 1 := by kernel_rfl
theorem cells_step : Try.prog.cellsOf 30 = 9 := by kernel_rfl
set_option maxRecDepth 100000 in
theorem elem_id2 (n : Nat) (cs : List Value) (d : DataW H × List MemPlace) (h : DataW.trod enc Try.prog w base spare held n 27 cs = some d) : ∃ x : ID, cs = idE.enc x ∧ I64 x.t ∧ I64 x.s := by
  obtain ⟨f0, f1, hs, o0, o1, e0, e1⟩ := fields_id2
  obtain ⟨ys, n', _, _, hlen, hyl, hg⟩ := DataW.trod_struct hs h
  rw [cells_id] at hlen
  match cs, hlen with
  | [c0, c1], _ =>
    match ys, hyl with
    | [y0, y1], _ =>
      have g0 := hg 0 f0 rfl
      have g1 := hg 1 f1 rfl
      rw [o0, e0, cells_int] at g0
      rw [o1, e1, cells_int] at g1
      obtain ⟨n0, z0, _, w0⟩ := DataW.trod_int Try.underlying3 g0
      obtain ⟨n1, z1, _, w1⟩ := DataW.trod_int Try.underlying3 g1
      simp at z0 z1
      subst z0 z1
      exact ⟨⟨n0, n1⟩, rfl, bounds_i64 w0, bounds_i64 w1⟩
set_option maxRecDepth 100000 in
theorem elem_run2 (n : Nat) (cs : List Value) (d : DataW H × List MemPlace) (h : DataW.trod enc Try.prog w base spare held n 61 cs = some d) : ∃ x : Run, cs = runE.enc x ∧ x.In := by
  obtain ⟨f0, f1, hs, o0, o1, e0, e1⟩ := fields_run2
  obtain ⟨ys, n', _, _, hlen, hyl, hg⟩ := DataW.trod_struct hs h
  rw [cells_run] at hlen
  match cs, hlen with
  | [c0, c1, c2], _ =>
    match ys, hyl with
    | [y0, y1], _ =>
      have g0 := hg 0 f0 rfl
      have g1 := hg 1 f1 rfl
      rw [o0, e0, cells_id] at g0
      rw [o1, e1, cells_int] at g1
      obtain ⟨x, hx, hi⟩ := elem_id2 _ _ _ g0
      obtain ⟨n1, z1, _, w1⟩ := DataW.trod_int Try.underlying3 g1
      simp at z1
      subst z1
      simp [idE] at hx
      obtain ⟨rfl, rfl⟩ := hx
      exact ⟨⟨x, n1⟩, rfl, hi.1, hi.2, bounds_i64 w1⟩
/-- a step as it lies in memory -/
structure StV where
  kind : Int
  id : ID
  ref : ID
  text : ByteArray
  runs : Rw
  i : Int
  n : Int
def stC (s : StV) : List Value := [.int .i64 s.kind, .int .i64 s.id.t, .int .i64 s.id.s, .int .i64 s.ref.t, .int .i64 s.ref.s, .string s.text, s.runs.v, .int .i64 s.i, .int .i64 s.n]
def stE : Enc StV := ⟨9, stC, fun _ => rfl, by decide, fun s u hu => by
  simp [stC] at hu
  rcases hu with rfl | rfl | rfl | rfl | rfl | rfl | rfl | rfl | rfl <;> rfl⟩
/-- what there is to know of a step that was given -/
structure StepIn (w : World) (s : StV) (rs : List Run) : Prop where
  row : SlAt runE w s.runs.v rs
  rin : ∀ r ∈ rs, r.In
  text : s.text.size ≤ maxLen
  nums : I64 s.kind ∧ I64 s.i ∧ I64 s.n
  ids : (I64 s.id.t ∧ I64 s.id.s) ∧ I64 s.ref.t ∧ I64 s.ref.s
set_option maxRecDepth 100000 in
theorem elem_step (n : Nat) (cs : List Value) (d : DataW H × List MemPlace) (h : DataW.trod enc Try.prog w base spare held n 30 cs = some d) : ∃ s : StV, cs = stE.enc s ∧ ∃ rs, StepIn w s rs := by
  obtain ⟨f0, f1, f2, f3, f4, f5, f6, hs, ⟨o0, o1, o2, o3, o4, o5, o6⟩, e0, e1, e2, e3, e4, e5, e6⟩ := fields_step
  obtain ⟨ys, n', _, _, hlen, hyl, hg⟩ := DataW.trod_struct hs h
  rw [cells_step] at hlen
  match cs, hlen with
  | [c0, c1, c2, c3, c4, c5, c6, c7, c8], _ =>
    match ys, hyl with
    | [y0, y1, y2, y3, y4, y5, y6], _ =>
      have g0 := hg 0 f0 rfl
      have g1 := hg 1 f1 rfl
      have g2 := hg 2 f2 rfl
      have g3 := hg 3 f3 rfl
      have g4 := hg 4 f4 rfl
      have g5 := hg 5 f5 rfl
      have g6 := hg 6 f6 rfl
      rw [o0, e0, cells_int] at g0
      rw [o1, e1, cells_id] at g1
      rw [o2, e2, cells_id] at g2
      rw [o3, e3, cells_string] at g3
      rw [o4, e4, cells_runs] at g4
      rw [o5, e5, cells_int] at g5
      rw [o6, e6, cells_int] at g6
      obtain ⟨n0, z0, _, w0⟩ := DataW.trod_int Try.underlying3 g0
      obtain ⟨x1, z1, hx1⟩ := elem_id2 _ _ _ g1
      obtain ⟨x2, z2, hx2⟩ := elem_id2 _ _ _ g2
      obtain ⟨s3, z3, _, w3⟩ := DataW.trod_string Try.underlying9 g3
      obtain ⟨a4, l4, k4, L4, z4, hs4, hx4⟩ := open_part runE Try.underlying28 cells_run elem_run2 g4
      obtain ⟨n5, z5, _, w5⟩ := DataW.trod_int Try.underlying3 g5
      obtain ⟨n6, z6, _, w6⟩ := DataW.trod_int Try.underlying3 g6
      simp at z0 z3 z4 z5 z6
      simp [idE] at z1 z2
      obtain ⟨rfl, rfl⟩ := z1
      obtain ⟨rfl, rfl⟩ := z2
      subst z0 z3 z4 z5 z6
      exact ⟨⟨n0, x1, x2, s3, ⟨a4, l4, k4⟩, n5, n6⟩, rfl, L4, ⟨hs4, hx4, w3, ⟨bounds_i64 w0, bounds_i64 w5, bounds_i64 w6⟩, hx1, hx2⟩⟩
set_option maxRecDepth 100000 in
theorem open_steps {r : Reach} {v : Value} {d : DataW H} {ps : List MemPlace} (hv : Value.okWide Try.prog w r b0 22 v)
    (h : DataW.Trod enc Try.prog w base spare held 22 v d ps) : ∃ L, SlAt stE w v L ∧ ∀ s ∈ L, ∃ rs, StepIn w s rs :=
  open_rows stE Try.underlying22 cells_step elem_step hv h
end
end Go.Proofs.Ytlafodnaifghcaa.Tr
