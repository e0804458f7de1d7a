/- hearsayref11.put: an element put in, into a row of its own. Load, what its rounds keep. hearsayref11.Check: why a row of elements is no document. -/
import Derived.Test.YtlafodnaifghcaaGreatH31
import Derived.Test.YtlafodnaifghcaaGreatH28
import Derived.Test.YtlafodnaifghcaaGreatH21
import Derived.Test.YtlafodnaifghcaaGreatH30
import Derived.Test.YtlafodnaifghcaaGreatH32
namespace Go.Proofs.YtlafodnaifghcaaGreat.Tr
open Go.RowKit Go.Sort Go.Proofs.YtlafodnaifghcaaGreat.St Go.Proofs.YtlafodnaifghcaaGreat Go.Proofs.YtlafodnaifghcaaGreat.Gl
attribute [local go_sem] Oper.semAt_some
set_option maxRecDepth 100000 in
set_option maxHeartbeats 4000000 in
theorem rput_any {w : World} {v : Value} {L : List Nd} (h : SlAt nodeE w v L) (hv : RowV v L.length) (hlen : L.length ≤ 800000) {p : Nat} (hp : p ≤ L.length) (x : Nd) :
    Calls Tryz.prog 84 #[v, .int .i64 p, .agg #[.int .i64 x.id.t, .int .i64 x.id.s, .int .i64 x.ref.t, .int .i64 x.ref.s, .int .i32 x.rune, .int .i64 x.st]] w fun e w' =>
      ∃ u, e = .returned u ∧ w'.ownsRow w.heap.size 45 6 u (put L p x).length (nodeE.flat (put L p x)) ∧ Kept (fun _ => False) w w' := by
  obtain ⟨⟨it, is⟩, ⟨rt, rs⟩, ru, st⟩ := x
  show Calls _ _ #[_, _, .agg #[.int .i64 it, .int .i64 is, .int .i64 rt, .int .i64 rs, .int .i32 ru, .int .i64 st]] _ _
  obtain ⟨F, hF⟩ : ∃ F, F = [(⟨⟨it, is⟩, ⟨rt, rs⟩, ru, st⟩ : Nd)] := ⟨_, rfl⟩
  obtain ⟨M, hM⟩ : ∃ M, put L p ⟨⟨it, is⟩, ⟨rt, rs⟩, ru, st⟩ = M := ⟨_, rfl⟩
  have HMM : Hid (M = L.take p ++ F ++ L.drop p) := Lib.hid (by rw [← hM, hF]; unfold put; simp)
  rw [hM]
  clear hM
  have HF := Lib.hid hF
  clear hF
  obtain ⟨a, c, rfl, hLc, hcm0⟩ := h.sl
  have hcm : c ≤ 9223372036854775807 := by unfold maxLen at hcm0; omega
  have hci : (c : Int) ≤ 9223372036854775807 := by omega
  clear hcm0
  obtain ⟨w1, hw1⟩ : ∃ w1, w.alloc (.cells #[.int .i64 it, .int .i64 is, .int .i64 rt, .int .i64 rs, .int .i32 ru, .int .i64 st] 45) = w1 := ⟨_, rfl⟩
  have k1 : Kept (fun _ => False) w w1 := by rw [← hw1]; exact (Kept.refl _ _).alloc _
  have b0 := Blk.new w 45 #[.int .i64 it, .int .i64 is, .int .i64 rt, .int .i64 rs, .int .i32 ru, .int .i64 st]
  rw [hw1] at b0
  have K1 := Lib.hid k1
  have B0 := Lib.hid b0
  have HL1 := Lib.hid (h.kept k1)
  have NW : Hid (w1.ownsRow w1.heap.size 45 nodeE.k (.slice none 0 0) ([] : List Nd).length (nodeE.flat [])) := Lib.hid (World.ownsRow_nil ..)
  have SIZ : Hid ((L.take p).length ≤ 800000 ∧ F.length ≤ 100000 ∧ (L.drop p).length ≤ 800000) := Lib.hid ⟨by rw [List.length_take]; omega, by rw [HF.out]; simp, by rw [List.length_drop]; omega⟩
  have hP0 : (0 : Int) ≤ p := by omega
  have hPLi : (p : Int) ≤ L.length := by omega
  have hLci : (L.length : Int) ≤ c := by omega
  have hPci : (p : Int) ≤ c := by omega
  clear k1 b0
  rcases hv with e | ⟨g, c', e⟩
  · injection e with q1 q2 q3
    subst q1 q3
    obtain rfl : L = [] := List.length_eq_zero_iff.1 q2
    obtain rfl : p = 0 := by simpa using hp
    clear q2
    have PRE : Hid (SlAt nodeE w1 (.slice none 0 0) (([] : List Nd).take 0)) := Lib.hid (.inl ⟨rfl, rfl⟩)
    have SUF : Hid (∀ W, Kept (fun _ => False) w1 W → SlAt nodeE W (.slice none 0 0) (([] : List Nd).drop 0)) := Lib.hid fun _ _ => .inl ⟨rfl, rfl⟩
    clear h hLc hp hlen
    go_enter Tryz.func84, Tryz.ntmps84
    go_upto_region 2 with fail
    clear hw1
    go_upto_region 3 with (at_builtin; (refine wpList_append_row nodeE rfl (.tmp 8) (.tmp 11) 31 rfl w1.heap.size 45 _ 48 Tryz.underlying31 info_node rfl rfl rfl NW.out PRE.out (by have := SIZ.out; simp only [List.length_nil]; unfold maxLen; omega) (by have := SIZ.out; simp only [List.length_nil]; omega) (Nat.le_refl _) ?_); intro v1 w11 ho1 hk1; rw [List.nil_append] at ho1; have K11 : Hid (Kept (fun _ => False) w1 w11) := Lib.hid (hk1.mono (fun b _ e => by have e : (Value.slice none 0 0).ownBlock = some b := e; cases e)); have O1 := Lib.hid ho1; clear ho1 hk1)
    have q0 := (K11.out.blk (fun h => h) B0.out).cell' (i := 0) rfl
    have q1 := (K11.out.blk (fun h => h) B0.out).cell' (i := 1) rfl
    have q2 := (K11.out.blk (fun h => h) B0.out).cell' (i := 2) rfl
    have q3 := (K11.out.blk (fun h => h) B0.out).cell' (i := 3) rfl
    have q4 := (K11.out.blk (fun h => h) B0.out).cell' (i := 4) rfl
    have q5 := (K11.out.blk (fun h => h) B0.out).cell' (i := 5) rfl
    have ka : Kept (fun _ => False) w11 (w11.alloc (.cells #[.int .i64 it, .int .i64 is, .int .i64 rt, .int .i64 rs, .int .i32 ru, .int .i64 st] 45)) := (Kept.refl _ _).alloc _
    have OL := Lib.hid (owns_keep O1.out ka fun _ _ h => h)
    have KL := Lib.hid (K11.out.trans ka fun _ _ h => h)
    have LIT : Hid (SlAt nodeE (w11.alloc (.cells #[.int .i64 it, .int .i64 is, .int .i64 rt, .int .i64 rs, .int .i32 ru, .int .i64 st] 45)) (.slice (some ⟨w11.heap.size, 0, none⟩) 1 1) F) := Lib.hid (by
      rw [HF.out]
      exact SlAt.lit [(⟨⟨it, is⟩, ⟨rt, rs⟩, ru, st⟩ : Nd)] _ rfl (by simp [maxLen]))
    clear ka
    go_upto_region 4 with (at_builtin; (refine wpList_append_row nodeE rfl (.tmp 13) (.tmp 15) 31 rfl w1.heap.size 45 _ 48 Tryz.underlying31 info_node rfl rfl rfl OL.out LIT.out (by have := SIZ.out; unfold maxLen; omega) (by have := SIZ.out; omega) KL.out.size ?_); intro v2 w12 ho2 hk2; have K12 : Hid (Kept (fun _ => False) w1 w12) := Lib.hid (KL.out.over hk2 fun b hb => owns_new O1.out b hb); have O2 := Lib.hid ho2; clear ho2 hk2)
    go_wp2_with (at_builtin; (refine wpList_append_row nodeE rfl (.tmp 17) (.tmp 20) 31 rfl w1.heap.size 45 _ 48 Tryz.underlying31 info_node rfl rfl rfl O2.out (SUF.out _ K12.out) (by have := SIZ.out; simp only [List.length_append]; unfold maxLen; omega) (by have := SIZ.out; simp only [List.length_append]; omega) K12.out.size ?_); intro v3 w13 ho3 hk3; have K13 : Hid (Kept (fun _ => False) w1 w13) := Lib.hid (K12.out.over hk3 fun b hb => owns_new O2.out b hb); have O3 := Lib.hid ho3; clear ho3 hk3)
    go_ret
    rw [HMM.out]
    exact ⟨_, rfl, owns_base9 O3.out K1.out.size, K1.out.trans K13.out fun _ _ h => h⟩
  · injection e with q1 q2 q3
    clear q2
    subst q1 q3
    have PRE := Lib.hid (sl_pre HL1.out hp)
    by_cases hcn : c = p
    · subst hcn
      have SUF : Hid (∀ W, Kept (fun _ => False) w1 W → SlAt nodeE W (.slice (some ⟨g, 0, none⟩) 0 0) (L.drop c)) := Lib.hid fun _ _ => by rw [List.drop_of_length_le (by omega)]; exact sl_void _ (Nat.zero_le _)
      have hdz : L.length - c = 0 := by omega
      clear h hLc hp hlen
      go_enter Tryz.func84, Tryz.ntmps84
      go_upto_region 2 with fail
      clear hw1
      go_upto_region 3 with (at_builtin; (refine wpList_append_row nodeE rfl (.tmp 8) (.tmp 11) 31 rfl w1.heap.size 45 _ 48 Tryz.underlying31 info_node rfl rfl rfl NW.out PRE.out (by have := SIZ.out; simp only [List.length_nil]; unfold maxLen; omega) (by have := SIZ.out; simp only [List.length_nil]; omega) (Nat.le_refl _) ?_); intro v1 w11 ho1 hk1; rw [List.nil_append] at ho1; have K11 : Hid (Kept (fun _ => False) w1 w11) := Lib.hid (hk1.mono (fun b _ e => by have e : (Value.slice none 0 0).ownBlock = some b := e; cases e)); have O1 := Lib.hid ho1; clear ho1 hk1)
      have q0 := (K11.out.blk (fun h => h) B0.out).cell' (i := 0) rfl
      have q1 := (K11.out.blk (fun h => h) B0.out).cell' (i := 1) rfl
      have q2 := (K11.out.blk (fun h => h) B0.out).cell' (i := 2) rfl
      have q3 := (K11.out.blk (fun h => h) B0.out).cell' (i := 3) rfl
      have q4 := (K11.out.blk (fun h => h) B0.out).cell' (i := 4) rfl
      have q5 := (K11.out.blk (fun h => h) B0.out).cell' (i := 5) rfl
      have ka : Kept (fun _ => False) w11 (w11.alloc (.cells #[.int .i64 it, .int .i64 is, .int .i64 rt, .int .i64 rs, .int .i32 ru, .int .i64 st] 45)) := (Kept.refl _ _).alloc _
      have OL := Lib.hid (owns_keep O1.out ka fun _ _ h => h)
      have KL := Lib.hid (K11.out.trans ka fun _ _ h => h)
      have LIT : Hid (SlAt nodeE (w11.alloc (.cells #[.int .i64 it, .int .i64 is, .int .i64 rt, .int .i64 rs, .int .i32 ru, .int .i64 st] 45)) (.slice (some ⟨w11.heap.size, 0, none⟩) 1 1) F) := Lib.hid (by
        rw [HF.out]
        exact SlAt.lit [(⟨⟨it, is⟩, ⟨rt, rs⟩, ru, st⟩ : Nd)] _ rfl (by simp [maxLen]))
      clear ka
      go_upto_region 4 with (at_builtin; (refine wpList_append_row nodeE rfl (.tmp 13) (.tmp 15) 31 rfl w1.heap.size 45 _ 48 Tryz.underlying31 info_node rfl rfl rfl OL.out LIT.out (by have := SIZ.out; unfold maxLen; omega) (by have := SIZ.out; omega) KL.out.size ?_); intro v2 w12 ho2 hk2; have K12 : Hid (Kept (fun _ => False) w1 w12) := Lib.hid (KL.out.over hk2 fun b hb => owns_new O1.out b hb); have O2 := Lib.hid ho2; clear ho2 hk2)
      go_wp2_with (at_builtin; (refine wpList_append_row nodeE rfl (.tmp 17) (.tmp 20) 31 rfl w1.heap.size 45 _ 48 Tryz.underlying31 info_node rfl rfl rfl O2.out (SUF.out _ K12.out) (by have := SIZ.out; simp only [List.length_append]; unfold maxLen; omega) (by have := SIZ.out; simp only [List.length_append]; omega) K12.out.size ?_); intro v3 w13 ho3 hk3; have K13 : Hid (Kept (fun _ => False) w1 w13) := Lib.hid (K12.out.over hk3 fun b hb => owns_new O2.out b hb); have O3 := Lib.hid ho3; clear ho3 hk3)
      go_ret
      rw [HMM.out]
      exact ⟨_, rfl, owns_base9 O3.out K1.out.size, K1.out.trans K13.out fun _ _ h => h⟩
    · have SUF : Hid (∀ W, Kept (fun _ => False) w1 W → SlAt nodeE W (.slice (some ⟨g, p * 6, none⟩) (L.length - p) (c - p)) (L.drop p)) := Lib.hid fun _ hk => sl_suf (HL1.out.kept hk) hp
      have hcn2 : p < c := by omega
      clear h hLc hp hlen
      go_enter Tryz.func84, Tryz.ntmps84
      go_upto_region 2 with fail
      clear hw1
      go_upto_region 3 with (at_builtin; (refine wpList_append_row nodeE rfl (.tmp 8) (.tmp 11) 31 rfl w1.heap.size 45 _ 48 Tryz.underlying31 info_node rfl rfl rfl NW.out PRE.out (by have := SIZ.out; simp only [List.length_nil]; unfold maxLen; omega) (by have := SIZ.out; simp only [List.length_nil]; omega) (Nat.le_refl _) ?_); intro v1 w11 ho1 hk1; rw [List.nil_append] at ho1; have K11 : Hid (Kept (fun _ => False) w1 w11) := Lib.hid (hk1.mono (fun b _ e => by have e : (Value.slice none 0 0).ownBlock = some b := e; cases e)); have O1 := Lib.hid ho1; clear ho1 hk1)
      have q0 := (K11.out.blk (fun h => h) B0.out).cell' (i := 0) rfl
      have q1 := (K11.out.blk (fun h => h) B0.out).cell' (i := 1) rfl
      have q2 := (K11.out.blk (fun h => h) B0.out).cell' (i := 2) rfl
      have q3 := (K11.out.blk (fun h => h) B0.out).cell' (i := 3) rfl
      have q4 := (K11.out.blk (fun h => h) B0.out).cell' (i := 4) rfl
      have q5 := (K11.out.blk (fun h => h) B0.out).cell' (i := 5) rfl
      have ka : Kept (fun _ => False) w11 (w11.alloc (.cells #[.int .i64 it, .int .i64 is, .int .i64 rt, .int .i64 rs, .int .i32 ru, .int .i64 st] 45)) := (Kept.refl _ _).alloc _
      have OL := Lib.hid (owns_keep O1.out ka fun _ _ h => h)
      have KL := Lib.hid (K11.out.trans ka fun _ _ h => h)
      have LIT : Hid (SlAt nodeE (w11.alloc (.cells #[.int .i64 it, .int .i64 is, .int .i64 rt, .int .i64 rs, .int .i32 ru, .int .i64 st] 45)) (.slice (some ⟨w11.heap.size, 0, none⟩) 1 1) F) := Lib.hid (by
        rw [HF.out]
        exact SlAt.lit [(⟨⟨it, is⟩, ⟨rt, rs⟩, ru, st⟩ : Nd)] _ rfl (by simp [maxLen]))
      clear ka
      go_upto_region 4 with (at_builtin; (refine wpList_append_row nodeE rfl (.tmp 13) (.tmp 15) 31 rfl w1.heap.size 45 _ 48 Tryz.underlying31 info_node rfl rfl rfl OL.out LIT.out (by have := SIZ.out; unfold maxLen; omega) (by have := SIZ.out; omega) KL.out.size ?_); intro v2 w12 ho2 hk2; have K12 : Hid (Kept (fun _ => False) w1 w12) := Lib.hid (KL.out.over hk2 fun b hb => owns_new O1.out b hb); have O2 := Lib.hid ho2; clear ho2 hk2)
      go_wp2_with (at_builtin; (refine wpList_append_row nodeE rfl (.tmp 17) (.tmp 20) 31 rfl w1.heap.size 45 _ 48 Tryz.underlying31 info_node rfl rfl rfl O2.out (SUF.out _ K12.out) (by have := SIZ.out; simp only [List.length_append]; unfold maxLen; omega) (by have := SIZ.out; simp only [List.length_append]; omega) K12.out.size ?_); intro v3 w13 ho3 hk3; have K13 : Hid (Kept (fun _ => False) w1 w13) := Lib.hid (K12.out.over hk3 fun b hb => owns_new O2.out b hb); have O3 := Lib.hid ho3; clear ho3 hk3)
      go_ret
      rw [HMM.out]
      exact ⟨_, rfl, owns_base9 O3.out K1.out.size, K1.out.trans K13.out fun _ _ h => h⟩
end Go.Proofs.YtlafodnaifghcaaGreat.Tr
namespace Go.Proofs.YtlafodnaifghcaaGreat.Tr
open Go.RowKit Go.Proofs.YtlafodnaifghcaaGreat.St
theorem offs_step {xs : List Nd} {n : Nat} {x : Nd} (hx : xs[n]? = some x) (h : offsC [] xs = offsC (ids (xs.take n)) (xs.drop n)) :
    (offC (ids (xs.take n)) x ≠ 0 → offsC [] xs = offC (ids (xs.take n)) x) ∧ (offC (ids (xs.take n)) x = 0 → offsC [] xs = offsC (ids (xs.take (n + 1))) (xs.drop (n + 1))) := by
  have hn := (List.getElem?_eq_some_iff.1 hx).1
  have e1 : xs.drop n = x :: xs.drop (n + 1) := by rw [List.drop_eq_getElem_cons hn, (List.getElem?_eq_some_iff.1 hx).2]
  have e2 : ids (xs.take (n + 1)) = ids (xs.take n) ++ [x.id] := by rw [List.take_add_one, hx]; simp [ids]
  rw [h, e1, e2]
  constructor
  · intro hne
    show (if offC _ x ≠ 0 then offC _ x else _) = _
    rw [if_pos hne]
  · intro hz
    show (if offC _ x ≠ 0 then offC _ x else _) = _
    rw [if_neg (fun h => h hz)]
/-- between two rounds of Load -/
structure LoadJ (w : World) (g : Nat) (xs : List Nd) (n : Nat) (W : World) : Prop where
  tree : ∃ A S mp, TAt W g (puts [] (xs.take n)) A S mp ∧ ∀ b, foot g (puts [] (xs.take n)) A S mp b → w.heap.size ≤ b
  doc : Doc (puts [] (xs.take n))
  mem : ∀ y, y ∈ ids (puts [] (xs.take n)) ↔ y ∈ ids (xs.take n)
  len : (puts [] (xs.take n)).length = n
  kept : Kept (fun _ => False) w W
  offs : offsC [] xs = offsC (ids (xs.take n)) (xs.drop n)
  inr : n ≤ xs.length
/-- what Load leaves -/
def LoadPost (w : World) (xs : List Nd) (e : Ending) (w' : World) : Prop :=
  Kept (fun _ => False) w w' ∧ ((loadC xs ≠ 0 ∧ e = .returned (.tuple #[.pointer none, .int .i64 (loadC xs)])) ∨
    (loadC xs = 0 ∧ ∃ g A S mp, e = .returned (.tuple #[.pointer (some ⟨g, 0, none⟩), .int .i64 0]) ∧ TAt w' g xs A S mp ∧ Doc xs ∧ ∀ b, foot g xs A S mp b → w.heap.size ≤ b))
variable {w W : World} {g n : Nat} {xs : List Nd}
theorem LoadJ.start : LoadJ w w.heap.size xs 0 (w.alloc (.cells #[.slice none 0 0, .map none] 30)) where
  tree := ⟨_, _, _, by simpa [puts] using new_at w, fun b hb => by
    rcases hb with h | h | ⟨y, hy, _⟩ | ⟨r, _, h⟩
    · omega
    · cases h
    · simp [puts, ids] at hy
    · cases h⟩
  doc := by simpa [puts] using Doc.nil
  mem := fun y => by simp [puts]
  len := by simp [puts]
  kept := (Kept.refl _ _).alloc _
  offs := by simp
  inr := Nat.zero_le _
theorem LoadJ.still {W' : World} (h : LoadJ w g xs n W) (hk : Kept (fun _ => False) W W') : LoadJ w g xs n W' := by
  obtain ⟨A, S, mp, ht, hf⟩ := h.tree
  exact { tree := ⟨A, S, mp, ht.still hk, hf⟩, doc := h.doc, mem := h.mem, len := h.len, kept := h.kept.trans hk fun _ _ h => h, offs := h.offs, inr := h.inr }
theorem LoadJ.no {w' : World} (h : LoadJ w g xs n W) (hk : Kept (fun _ => False) W w') {x : Nd} (hx : xs[n]? = some x) {r : Int} (hr : offC (ids (xs.take n)) x = r) (hr0 : r ≠ 0) : LoadPost w xs (.returned (.tuple #[.pointer none, .int .i64 r])) w' := by
  have e := (offs_step hx h.offs).1 (by rw [hr]; exact hr0)
  rw [hr] at e
  have e2 : loadC xs = r := by
    unfold loadC
    rw [if_pos (by rw [e]; exact hr0), e]
  exact ⟨h.kept.trans hk fun _ _ h => h, .inl ⟨by rw [e2]; exact hr0, by rw [e2]⟩⟩
theorem LoadJ.call (h : LoadJ w g xs n W) {x : Nd} (hx : xs[n]? = some x) (hz : offC (ids (xs.take n)) x = 0) (hlen : xs.length ≤ 900000) :
    Calls Tryz.prog 48 #[.pointer (some ⟨g, 0, none⟩), .agg (ndC x).toArray] W fun e W' => e = .returned (.tuple #[]) ∧ LoadJ w g xs (n + 1) W' := by
  obtain ⟨A, S, mp, ht, hf⟩ := h.tree
  obtain ⟨k1, k2, k3, k4, _⟩ := off_ok hz
  have hn := (List.getElem?_eq_some_iff.1 hx).1
  have e1 : xs.take (n + 1) = xs.take n ++ [x] := by rw [List.take_add_one, hx]; rfl
  have hxz : x.id ≠ ID.zero := fun e => by have := congrArg ID.t e; have h3 : x.id.t = 0 := this; have := k1.1; omega
  have href : Ref (puts [] (xs.take n)) x.ref := k4.imp_right fun h1 => (h.mem _).2 h1
  have hnew : x.id ∉ ids (puts [] (xs.take n)) := fun h1 => k3 ((h.mem _).1 h1)
  refine (put_any ht h.doc (by rw [h.len]; omega) x hxz href k2 hnew).mono ?_
  rintro e W' ⟨he, A4, S4, mp4, ht4, hf4, hk4⟩
  refine ⟨he, ⟨A4, S4, mp4, ?_, ?_⟩, ?_, ?_, ?_, ?_, (offs_step hx h.offs).2 hz, by omega⟩
  · rw [e1, puts_snoc]; exact ht4
  · rw [e1, puts_snoc]
    intro b hb
    rcases hf4 b hb with h1 | h1
    · exact hf b h1
    · exact Nat.le_trans h.kept.size h1
  · rw [e1, puts_snoc]; exact (h.doc.put href k2 hnew).1
  · intro y
    rw [e1, puts_snoc, put_ids, h.mem]
    simp [ids, or_comm]
  · rw [e1, puts_snoc, put_length, h.len]
  · exact h.kept.trans hk4 fun b hb h1 => by have := hf b h1; omega
/-- at the end -/
theorem LoadJ.done {w' : World} (h : LoadJ w g xs xs.length W) (hk : Kept (fun _ => False) W w') : (puts [] xs = xs → LoadPost w xs (.returned (.tuple #[.pointer (some ⟨g, 0, none⟩), .int .i64 0])) w') ∧ (puts [] xs ≠ xs → LoadPost w xs (.returned (.tuple #[.pointer none, .int .i64 9])) w') := by
  have h0 : offsC [] xs = 0 := by rw [h.offs, List.drop_length]; rfl
  have hk2 := h.kept.trans hk fun _ _ h => h
  constructor
  · intro e
    have e2 : loadC xs = 0 := by unfold loadC; rw [if_neg (fun h => h h0), if_pos e]
    obtain ⟨A, S, mp, ht, hf⟩ := h.tree
    have hd := h.doc
    rw [List.take_length, e] at ht hf hd
    exact ⟨hk2, .inr ⟨e2, g, A, S, mp, rfl, ht.still hk, hd, hf⟩⟩
  · intro e
    have e2 : loadC xs = 9 := by unfold loadC; rw [if_neg (fun h => h h0), if_neg e]
    exact ⟨hk2, .inl ⟨by rw [e2]; decide, by rw [e2]⟩⟩
end Go.Proofs.YtlafodnaifghcaaGreat.Tr
namespace Go.Proofs.YtlafodnaifghcaaGreat.Tr
open Go.RowKit Go.Sort Go.Proofs.YtlafodnaifghcaaGreat.St Go.Proofs.YtlafodnaifghcaaGreat Go.Proofs.YtlafodnaifghcaaGreat.Gl
attribute [local go_sem] Oper.semAt_some
theorem puts_one {L : List Nd} {n : Nat} {x : Nd} (hx : L[n]? = some x) : puts [] (L.take (n + 1)) = put (puts [] (L.take n)) (placeP (puts [] (L.take n)) x.id x.ref) x := by
  rw [List.take_add_one, hx]
  exact puts_snoc _ _ _
theorem puts_take (L : List Nd) : ∀ n, n ≤ L.length → (puts [] (L.take n)).length = n ∧ ∀ y, y ∈ ids (puts [] (L.take n)) ↔ y ∈ ids (L.take n)
  | 0, _ => ⟨rfl, fun _ => Iff.rfl⟩
  | n + 1, hn => by
    obtain ⟨x, hx⟩ := get_of_lt (show n < L.length by omega)
    obtain ⟨h1, h2⟩ := puts_take L n (by omega)
    rw [puts_one hx]
    refine ⟨by rw [put_len, h1], fun y => ?_⟩
    rw [put_ids, h2, List.take_add_one, hx, ids_append, List.mem_append]
    show _ ↔ y ∈ ids (L.take n) ∨ y ∈ [x.id]
    rw [List.mem_singleton]
    exact Or.comm
set_option maxRecDepth 100000 in
set_option maxHeartbeats 8000000 in
theorem rcheck_any {w : World} {v : Value} {L : List Nd} (h : SlAt nodeE w v L) (hlen : L.length ≤ 800000) :
    Calls Tryz.prog 50 #[v] w fun e w' => e = .returned (.int .i64 (loadC L)) ∧ Kept (fun _ => False) w w' := by
  obtain ⟨E, hE⟩ : ∃ E, loadC L = E := ⟨_, rfl⟩
  rw [hE]
  have HE := Lib.hid hE
  clear hE
  have H := Lib.hid h
  obtain ⟨a, c, rfl, hLc, hcm0⟩ := h.sl
  have hcm : c ≤ 9223372036854775807 := by unfold maxLen at hcm0; omega
  have hci : (c : Int) ≤ 9223372036854775807 := by omega
  clear hcm0 h
  have OFF := Lib.hid (fun W (hk : Kept (fun _ => False) w W) (i : Nat) (x : Nd) (hx : L[i]? = some x) => roffends_any (H.out.kept hk) hlen hx)
  go_enter Tryz.func50, Tryz.ntmps50
  go_wp2_with fail
  go_loopw [3] (fun iv wr => ∃ n : Nat, iv = .int .i64 n ∧ n ≤ L.length ∧ offsC [] L = offsC (ids (L.take n)) (L.drop n) ∧ (∀ (k : Nat) (x : Nd), k < n → L[k]? = some x → offC (ids (L.take k)) x = 0) ∧ Kept (fun _ => False) w wr) (fun iv _ => L.length - (intOf iv).toNat)
  case atStart => exact ⟨0, rfl, Nat.zero_le _, rfl, fun _ _ h => absurd h (Nat.not_lt_zero _), Kept.refl _ _⟩
  case round =>
    obtain ⟨n, rfl, hn, hof, hno, hkw⟩ := hrel
    have OFS := Lib.hid hof
    have NO := Lib.hid hno
    have KW := Lib.hid hkw
    have hn0 : (0 : Int) ≤ n := by omega
    clear hof hno hkw
    by_cases hlt : n < L.length
    case pos =>
      have hnl : (n : Int) < L.length := by omega
      obtain ⟨x, hx⟩ := get_of_lt hlt
      have HX := Lib.hid hx
      obtain ⟨y, hy⟩ : ∃ y, offC (ids (L.take n)) x = y := ⟨_, rfl⟩
      have OF1 := Lib.hid (OFF.out _ KW.out n x hx)
      rw [hy] at OF1
      have HY := Lib.hid hy
      have ewn : IntKind.i64.wrap ((n : Int) + 1) = (n : Int) + 1 := IntWalk.i64_in _ (by omega)
      clear hx hy
      by_cases hy0 : y = 0
      case pos =>
        subst hy0
        go_wp2_with (go_at_call 83; refine OF1.out.mono ?_; rintro e w2 ⟨rfl, hk⟩; have K2 := Lib.hid (KW.out.trans hk fun _ _ h => h); clear hk)
        go_roundw
        case rel =>
          refine ⟨n + 1, by go_num, by omega, (offs_step HX.out OFS.out).2 HY.out, fun k z hk hz => ?_, K2.out⟩
          rcases Nat.lt_or_ge k n with h9 | h9
          · exact NO.out k z h9 hz
          · obtain rfl : k = n := by omega
            obtain rfl : x = z := by have := HX.out; rw [this] at hz; exact Option.some.inj hz
            exact HY.out
        case measure => simp [intOf] <;> omega
      case neg =>
        obtain rfl : E = y := by
          rw [← HE.out, ← HY.out]
          have h9 := (offs_step HX.out OFS.out).1 (by rw [HY.out]; exact hy0)
          unfold loadC
          rw [h9, if_pos (by rw [HY.out]; exact hy0)]
        go_wp2_with (go_at_call 83; refine OF1.out.mono ?_; rintro e w2 ⟨rfl, hk⟩; have K2 := Lib.hid (KW.out.trans hk fun _ _ h => h); clear hk)
        go_ret
        exact ⟨rfl, K2.out⟩
    case neg =>
      have hnl : ¬ (n : Int) < L.length := by omega
      obtain rfl : n = L.length := by omega
      have ALL : Hid (∀ (k : Nat) (x : Nd), L[k]? = some x → offC (ids (L.take k)) x = 0) := Lib.hid fun k x hx => NO.out k x (List.getElem?_eq_some_iff.1 hx).1 hx
      have OF0 : Hid (offsC [] L = 0) := Lib.hid (by
        have h9 := OFS.out
        rw [List.drop_of_length_le (Nat.le_refl _)] at h9
        exact h9)
      clear OFS NO OFF
      obtain ⟨w3, hw3⟩ : ∃ w3, wr = w3 := ⟨_, rfl⟩
      rw [hw3] at KW ⊢
      clear hw3
      go_wp2_with fail
      go_loopw [5, 6] (fun lv iv wr => ∃ n : Nat, iv = .int .i64 n ∧ n ≤ L.length ∧ wr.ownsRow w3.heap.size 45 6 lv (puts [] (L.take n)).length (nodeE.flat (puts [] (L.take n))) ∧ Kept (fun _ => False) w3 wr) (fun _ iv _ => L.length - (intOf iv).toNat)
      case atStart => exact ⟨0, rfl, Nat.zero_le _, World.ownsRow_nil .., Kept.refl _ _⟩
      case round =>
        obtain ⟨n, rfl, hn, ho, hkw⟩ := hrel
        obtain ⟨P, hP⟩ : ∃ P, puts [] (L.take n) = P := ⟨_, rfl⟩
        have hPn := (puts_take L n hn).1
        have hPm := (puts_take L n hn).2
        rw [hP] at ho hPn hPm
        have hv := rowV_owns (E := nodeE) ho
        rw [hPn] at ho
        obtain ⟨fa, fc, rfl⟩ := owns_sl ho
        have HO := Lib.hid ho
        have HP := Lib.hid hP
        have HPN := Lib.hid hPn
        have KW3 := Lib.hid hkw
        have HV := Lib.hid hv
        have hn0 : (0 : Int) ≤ n := by omega
        clear ho hkw hP hPn hv
        by_cases hlt : n < L.length
        case pos =>
          have hnl : (n : Int) < L.length := by omega
          obtain ⟨x, hx⟩ := get_of_lt hlt
          have HX := Lib.hid hx
          have ewn : IntKind.i64.wrap ((n : Int) + 1) = (n : Int) + 1 := IntWalk.i64_in _ (by omega)
          obtain ⟨g, o, c', e1, _, h1⟩ := SlAt.node (H.out.kept (KW.out.trans KW3.out fun _ _ h => h)) (by omega)
          cases e1
          have R0 := Lib.hid (h1 n _ hx)
          obtain ⟨r0, r1, r2, r3, r4, r5⟩ := R0.out
          obtain ⟨p, hp⟩ : ∃ p, placeP P x.id x.ref = p := ⟨_, rfl⟩
          have hple : p ≤ P.length := by
            rw [← hp]
            refine placeP_le ?_
            rcases (off_ok (ALL.out n x hx)).2.2.2.1 with h9 | h9
            · exact .inl h9
            · exact .inr ((hPm _).2 h9)
          have PL := Lib.hid (fun (W : World) (hk : Kept (fun _ => False) wr W) => (rplace_any ((owns_slAt (E := nodeE) HO.out).kept hk) (by rw [HPN.out]; omega) x.id x.ref).mono (R' := fun e w' => e = .returned (.int .i64 p) ∧ Kept (fun _ => False) wr w') fun e w' h => ⟨by rw [← hp]; exact h.1, hk.trans h.2 fun _ _ h => h⟩)
          have PU := Lib.hid (fun (W : World) (hk : Kept (fun _ => False) wr W) => (rput_any ((owns_slAt (E := nodeE) HO.out).kept hk) HV.out (by rw [HPN.out]; omega) hple x).mono (R' := fun e w' => ∃ u, e = .returned u ∧ w'.ownsRow wr.heap.size 45 6 u (put P p x).length (nodeE.flat (put P p x)) ∧ Kept (fun _ => False) wr w') fun e w' ⟨u, h1, h2, h3⟩ => ⟨u, h1, owns_base9 h2 hk.size, hk.trans h3 fun _ _ h => h⟩)
          have HPP := Lib.hid hp
          clear hx h1 hp hple hPm
          go_upto_region 11 with fail
          have C6 : Hid (∀ W, Kept (fun _ => False) wr W → W.cell? ⟨g, o + n * 6, none⟩ = some (.int .i64 x.id.t) ∧ W.cell? ⟨g, o + n * 6 + 1, none⟩ = some (.int .i64 x.id.s) ∧ W.cell? ⟨g, o + n * 6 + 2, none⟩ = some (.int .i64 x.ref.t) ∧ W.cell? ⟨g, o + n * 6 + 3, none⟩ = some (.int .i64 x.ref.s) ∧ W.cell? ⟨g, o + n * 6 + 4, none⟩ = some (.int .i32 x.rune) ∧ W.cell? ⟨g, o + n * 6 + 5, none⟩ = some (.int .i64 x.st)) := Lib.hid fun W hk => by
            obtain ⟨r0, r1, r2, r3, r4, r5⟩ := R0.out
            exact ⟨cell_keep hk r0, cell_keep hk r1, cell_keep hk r2, cell_keep hk r3, cell_keep hk r4, cell_keep hk r5⟩
          go_region_held3 (fun W : World => W.cell? ⟨g, o + n * 6, none⟩ = some (.int .i64 x.id.t) ∧ W.cell? ⟨g, o + n * 6 + 1, none⟩ = some (.int .i64 x.id.s) ∧ W.cell? ⟨g, o + n * 6 + 2, none⟩ = some (.int .i64 x.ref.t) ∧ W.cell? ⟨g, o + n * 6 + 3, none⟩ = some (.int .i64 x.ref.s) ∧ W.cell? ⟨g, o + n * 6 + 4, none⟩ = some (.int .i32 x.rune) ∧ W.cell? ⟨g, o + n * 6 + 5, none⟩ = some (.int .i64 x.st)) (first | exact C6.out _ (Kept.refl _ _) | exact C6.out _ (Kept.refl _ _).drew | exact C6.out _ K4.out | exact C6.out _ K5.out) (first
            | (go_at_call 84; refine (PU.out _ K4.out).mono ?_; rintro e w5 ⟨u, rfl, ho, hk⟩; (obtain ⟨ua, uc, rfl⟩ := owns_sl ho); have O5 := Lib.hid ho; have K5 := Lib.hid hk; clear ho hk)
            | (go_at_call 73; (first | refine (PL.out _ (Kept.refl _ _)).mono ?_ | refine (PL.out _ (Kept.refl _ _).drew).mono ?_); rintro e w4 ⟨rfl, hk⟩; have K4 := Lib.hid hk; clear hk))
          go_wp2_with fail
          go_roundw
          case rel =>
            refine ⟨n + 1, by go_num, by omega, ?_, KW3.out.trans K5.out fun _ _ h => h⟩
            rw [puts_one HX.out, HP.out, HPP.out]
            exact owns_base9 O5.out KW3.out.size
          case measure => simp [intOf] <;> omega
        case neg =>
          have hnl : ¬ (n : Int) < L.length := by omega
          obtain rfl : n = L.length := by omega
          have HPL : Hid (puts [] L = P) := Lib.hid (by have := HP.out; rw [List.take_length] at this; exact this)
          obtain ⟨w6, hw6⟩ : ∃ w6, wr = w6 := ⟨_, rfl⟩
          rw [hw6] at HO KW3 ⊢
          clear hw6
          have K6 := Lib.hid (KW.out.trans KW3.out fun _ _ h => h)
          go_wp2_with fail
          go_loopw [7] (fun iv wr => ∃ k : Nat, iv = .int .i64 k ∧ k ≤ L.length ∧ P.take k = L.take k ∧ Kept (fun _ => False) w6 wr) (fun iv _ => L.length - (intOf iv).toNat)
          case atStart => exact ⟨0, rfl, Nat.zero_le _, rfl, Kept.refl _ _⟩
          case round =>
            obtain ⟨k, rfl, hk, heq, hkw⟩ := hrel
            have EQ := Lib.hid heq
            have KV := Lib.hid hkw
            have KT := Lib.hid (K6.out.trans hkw fun _ _ h => h)
            have hk0 : (0 : Int) ≤ k := by omega
            clear heq hkw
            by_cases hlt2 : k < L.length
            case pos =>
              have hkl : (k : Int) < L.length := by omega
              obtain ⟨x, hx⟩ := get_of_lt hlt2
              obtain ⟨y, hy⟩ := get_of_lt (show k < P.length by rw [HPN.out]; exact hlt2)
              have HX := Lib.hid hx
              have HY := Lib.hid hy
              have ewk : IntKind.i64.wrap ((k : Int) + 1) = (k : Int) + 1 := IntWalk.i64_in _ (by omega)
              obtain ⟨g, o, c', e1, _, h1⟩ := SlAt.node (H.out.kept KT.out) (by omega)
              cases e1
              obtain ⟨r0, r1, r2, r3, r4, r5⟩ := h1 k _ hx
              obtain ⟨g2, o2, c2, e2, _, h2⟩ := SlAt.node ((owns_slAt (E := nodeE) HO.out).kept KV.out) (by rw [HPN.out]; omega)
              rw [HPN.out] at e2
              cases e2
              obtain ⟨q0, q1, q2, q3, q4, q5⟩ := h2 k _ hy
              have hne := ne_node y x
              unfold ndC at hne
              clear hx hy h1 h2
              by_cases q : y = x
              case pos =>
                rw [decide_eq_true q] at hne
                have QQ := Lib.hid q
                clear q
                go_wp2_with fail
                go_quiet (fail)
                go_wp2_with fail
                go_roundw
                case rel => exact ⟨k + 1, by go_num, by omega, by rw [List.take_add_one, List.take_add_one, HX.out, HY.out, EQ.out, QQ.out], KV.out.drewN _⟩
                case measure => simp [intOf] <;> omega
              case neg =>
                rw [decide_eq_false q] at hne
                have QQ := Lib.hid q
                clear q
                obtain rfl : E = 9 := by
                  rw [← HE.out]
                  unfold loadC
                  rw [OF0.out, if_neg (fun h => h rfl), HPL.out]
                  refine if_neg fun e => QQ.out ?_
                  have h9 := HY.out
                  rw [e, HX.out] at h9
                  exact (Option.some.inj h9).symm
                go_wp2_with fail
                go_quiet (fail)
                go_wp2_with fail
                go_ret
                exact ⟨rfl, KT.out.drewN _⟩
            case neg =>
              have hkl : ¬ (k : Int) < L.length := by omega
              obtain rfl : E = 0 := by
                rw [← HE.out]
                unfold loadC
                rw [OF0.out, if_neg (fun h => h rfl), HPL.out]
                refine if_pos ?_
                have h9 := EQ.out
                rw [List.take_of_length_le (by rw [HPN.out]; omega), List.take_of_length_le (by omega)] at h9
                exact h9
              go_wp2_with fail
              go_ret
              exact ⟨rfl, KT.out⟩
end Go.Proofs.YtlafodnaifghcaaGreat.Tr
