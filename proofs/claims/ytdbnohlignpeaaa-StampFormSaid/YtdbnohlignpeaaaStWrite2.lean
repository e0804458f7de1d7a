/- stamp.Writer: the rest of Number; Text, Data, Err. -/
import Derived.Test.YtdbnohlignpeaaaStWrite
import Derived.Test.YtdbnohlignpeaaaStApp
namespace Go.Proofs.Ytdbnohlignpeaaa.St
open Go.RowKit

theorem wnum_nil (n : Int) (w : World) : Calls Try.prog 40 #[.pointer none, .int .i64 n] w fun e w' => e = .returned (.tuple #[]) ∧ w = w' := by
  go_enter Try.func40, Try.ntmps40
  go_wp2_with fail
  refine bodyPost_ret (results_none rfl _ _ _) rfl ?_
  exact ⟨rfl, rfl⟩
theorem wnum_err {w : World} {A : Nat} {bs : List UInt8} {e0 : Int} {F : Nat → Prop} (h : WrIs w A bs e0 F) (he : e0 ≠ 0) (n : Int) : Calls Try.prog 40 #[.pointer (some ⟨A, 0, none⟩), .int .i64 n] w fun e w' => e = .returned (.tuple #[]) ∧ w = w' := by
  obtain ⟨v, h1, h2, rfl⟩ := h
  have c1 : w.cell? ⟨A, 1, none⟩ = some (.int .i64 e0) := h1.cell' rfl
  have hb : (e0 != 0) = true := by simpa using he
  clear h1 h2 he
  go_enter Try.func40, Try.ntmps40
  go_wp2_with fail
  refine bodyPost_ret (results_none rfl _ _ _) rfl ?_
  exact ⟨rfl, rfl⟩
theorem wnum_neg {w : World} {A : Nat} {bs : List UInt8} {F : Nat → Prop} (h : WrIs w A bs 0 F) (n : Int) (hn : n < 0) : Calls Try.prog 40 #[.pointer (some ⟨A, 0, none⟩), .int .i64 n] w fun e w' => e = .returned (.tuple #[]) ∧ WrGoes w A bs 1 F w' := by
  obtain ⟨v, h1, h2, rfl⟩ := h
  have c1 : w.cell? ⟨A, 1, none⟩ = some (.int .i64 0) := h1.cell' rfl
  have f1 := h1.frozen 1
  have hne := wr_ne h1 h2
  have H1 := Lib.hid h1
  have H2 := Lib.hid h2
  clear h1 h2
  go_enter Try.func40, Try.ntmps40
  go_wp2_with fail
  refine bodyPost_ret (results_none rfl _ _ _) rfl ?_
  exact ⟨rfl, _, ⟨v, H1.out.set_ 1 _, owns_keep H2.out (Kept.setCell (Kept.refl (· = A) w) (p := ⟨A, 1, none⟩) (fun _ => rfl) _) (fun b hb e => hne (e ▸ hb)), rfl⟩, fun _ _ h => h, Kept.setCell (Kept.refl _ w) (p := ⟨A, 1, none⟩) (fun _ => .inl rfl) _⟩

theorem wtext_nil (s : ByteArray) (w : World) : Calls Try.prog 53 #[.pointer none, .string s] w fun e w' => e = .returned (.tuple #[]) ∧ w = w' := by
  go_enter Try.func53, Try.ntmps53
  go_wp2_with fail
  refine bodyPost_ret (results_none rfl _ _ _) rfl ?_
  exact ⟨rfl, rfl⟩
theorem wtext_err {w : World} {A : Nat} {bs : List UInt8} {e0 : Int} {F : Nat → Prop} (h : WrIs w A bs e0 F) (he : e0 ≠ 0) (s : ByteArray) : Calls Try.prog 53 #[.pointer (some ⟨A, 0, none⟩), .string s] w fun e w' => e = .returned (.tuple #[]) ∧ w = w' := by
  obtain ⟨v, h1, h2, rfl⟩ := h
  have c1 : w.cell? ⟨A, 1, none⟩ = some (.int .i64 e0) := h1.cell' rfl
  have hb : (e0 != 0) = true := by simpa using he
  clear h1 h2 he
  go_enter Try.func53, Try.ntmps53
  go_wp2_with fail
  refine bodyPost_ret (results_none rfl _ _ _) rfl ?_
  exact ⟨rfl, rfl⟩
theorem strCells_flat (s : ByteArray) : Lib.strCells s = byteE.flat s.data.toList := by rw [byte_flat]; rfl
theorem size_data (s : ByteArray) : s.data.toList.length = s.size := by simp
set_option maxRecDepth 100000 in
set_option maxHeartbeats 2000000 in
theorem wtext_ok {w : World} {A : Nat} {bs : List UInt8} {F : Nat → Prop} (h : WrIs w A bs 0 F) (s : ByteArray) (hs : s.size ≤ 1000000) (hb : bs.length ≤ 1000000) :
    Calls Try.prog 53 #[.pointer (some ⟨A, 0, none⟩), .string s] w fun e w' => e = .returned (.tuple #[]) ∧ WrGoes w A (bs ++ numL s.size ++ s.data.toList) 0 F w' := by
  obtain ⟨i0, hi, hz0, hz1, hz2⟩ := info_parts info_u8
  have I := Lib.hid hi
  have Z0 := Lib.hid hz0
  have Z1 := Lib.hid hz1
  have Z2 := Lib.hid hz2
  have hnum := wnum_ok h s.size (by omega) (by omega)
  have hlt := Lib.hid h.lt
  have c1 : w.cell? ⟨A, 1, none⟩ = some (.int .i64 0) := by obtain ⟨v, h1, _⟩ := h; exact h1.cell' rfl
  clear hi hz0 hz1 hz2 h
  go_enter Try.func53, Try.ntmps53
  go_wp2_with fail
  refine hnum.mono ?_
  rintro e w1 ⟨rfl, F1, ⟨v, h1, h2, rfl⟩, hF1, hk1⟩
  have hl : (bs ++ numL s.size).length ≤ 1000010 := by have := numL_len 9 s.size (by omega) (by omega); simp; omega
  have hl2 : (bs ++ numL s.size).length + s.size ≤ 1000000000 := by omega
  obtain ⟨va, vc, rfl⟩ := owns_sl h2
  have c0 : w1.cell? ⟨A, 0, none⟩ = some (.slice va (bs ++ numL s.size).length vc) := h1.cell' rfl
  have f0 := h1.frozen 0
  have hvA := wr_ne h1 h2
  have OW := Lib.hid h2
  have HB := Lib.hid h1
  have BL : Hid ((bs ++ numL s.size ++ s.data.toList).length = (bs ++ numL s.size).length + s.size) := by show (bs ++ numL s.size ++ s.data.toList).length = _; rw [List.length_append, size_data]
  have KK := Lib.hid hk1
  have FF := Lib.hid hF1
  clear h1 h2 hl c1 hk1 hF1 hnum
  generalize hbs : bs ++ numL s.size = bs' at *
  have BSE := Lib.hid hbs
  clear hbs
  have hn9 : bs'.length + s.size ≤ 1000000000 := by omega
  go_wp2_with (at_builtin; (go_loud (refine wpList_append_string_at rfl (.tmp 21) (.tmp 22) 44 9 rfl 0 5 i0 Try.underlying44 Try.underlying9 I.out Z0.out Z1.out Z2.out _ _ _ rfl OW.out s rfl hn9 (Nat.zero_le _) ?_)); (intro v2 w5 hown5 hgrow0 hat0); (obtain ⟨va2, vc2, rfl⟩ := owns_sl hown5); (have hgrow : World.grownBy _ w5 (Value.slice va bs'.length vc).ownBlock := hgrow0); (have hat : (Value.slice va2 (bs'.length + s.size) vc2).ownBlock = (Value.slice va bs'.length vc).ownBlock ∨ (Value.slice va2 (bs'.length + s.size) vc2).ownBlock = some w1.heap.size := hat0); (clear hgrow0 hat0); (have hB5 := HB.out.grown hgrow hvA); (have c5 : w5.cell? ⟨A, 0, none⟩ = some (.slice va bs'.length vc) := hB5.cell' rfl); (have f5 := hB5.frozen 0); (clear hB5))
  go_end0
  obtain ⟨g1, g2, g3, g4⟩ := push_done HB.out (Kept.refl _ _) hvA hgrow hat hown5
  refine ⟨rfl, _, ⟨.slice va2 (bs'.length + s.size) vc2, g1, ?_, rfl⟩, fun b hb h => FF.out b hb (h.imp id fun hv => g3 b (Nat.lt_of_lt_of_le hb KK.out.size) hv), KK.out.trans g4 (fun i hi h => FF.out i hi h)⟩
  rw [BSE.out, BL.out, byteE.flat_append, ← strCells_flat]
  exact g2
/-- Data: a copy -/
theorem clone_bytes {w : World} {v : Value} {L : List UInt8} (h : SlAt byteE w v L) (hb : L.length ≤ 1000000000) :
    Calls Try.prog 65 #[v] w fun e w' => ∃ v', e = .returned v' ∧ w'.ownsRow w.heap.size 5 1 v' L.length (byteE.flat L) ∧ Kept (fun _ => False) w w' := by
  have q := fun (w : World) (a : Option Addr) (n c n' c' : Nat) => Lib.run_eql_slice_nil (P := Try.prog) w 44 _ a n c n' c' Try.underlying44
  obtain ⟨a, c, rfl, hle, hc⟩ := h.sl
  cases a with
  | none =>
    obtain ⟨rfl, _, rfl⟩ := h.none_
    clear h hb hc hle
    go_enter Try.func65, Try.ntmps65
    go_wp2
    go_ret
    exact ⟨_, rfl, World.ownsRow_nil _ _ _ _, Kept.refl _ _⟩
  | some x =>
    obtain ⟨_, hn⟩ := h.at_
    obtain ⟨i0, hi, hz0, hz1, hz2⟩ := info_parts info_u8
    have hl := byteE.flat_len L
    have h1 := byteE.flat_one_cell L
    generalize byteE.flat L = news at hn hl h1 ⊢
    generalize L.length = n at *
    have hl2 : news.length = n * 1 := hl
    have hn2 : ∀ j u, news[j]? = some u → (w.alloc (.cells #[] 5)).cell? (x.add j) = some u := fun j u hu => by
      have hc := hn j u hu
      rw [World.cell?_of_block (a := x.add j) (w := w)]
      · exact hc
      · exact Below.heap_alloc w _ _ (World.block_lt_of_cell? w _ hc)
    have N := Lib.hid hn2
    have I := Lib.hid hi
    have Z0 := Lib.hid hz0
    have Z1 := Lib.hid hz1
    have Z2 := Lib.hid hz2
    have HL := Lib.hid hl2
    have H1 := Lib.hid h1
    have h63 : 0 + n ≤ maxLen := by unfold maxLen; omega
    have hby : (0 + n) * 1 ≤ 140737488355328 := by omega
    clear hn hn2 hi hz0 hz1 hz2 hl hl2 h1 h hc
    go_enter Try.func65, Try.ntmps65
    go_wp2_with (at_builtin; refine wpList_append_own _ rfl _ _ 44 rfl w.heap.size 5 i0 (.int .u8 0) 1 1 Try.underlying44 I.out Z0.out Z1.out Z2.out rfl (by decide) _ _ _ rfl (World.ownsRow_made w #[] 0 (Nat.le_refl _) (Nat.zero_le _) (by simp)) x n c news rfl HL.out N.out H1.out h63 hby (by simp) ?_)
    intro v' w1 hown hgrow _
    go_wp2
    go_ret
    refine ⟨v', rfl, by simpa using hown, ?_⟩
    exact ((Kept.refl _ _).alloc _).grown hgrow (fun k e hk => by simp [Value.ownBlock] at e; omega)
theorem wdata_nil (w : World) : Calls Try.prog 28 #[.pointer none] w fun e w' => e = .returned (.slice none 0 0) ∧ w = w' := by
  go_enter Try.func28, Try.ntmps28
  go_wp2_with fail
  go_ret
  exact ⟨rfl, rfl⟩
theorem wdata_any {w : World} {A : Nat} {bs : List UInt8} {e0 : Int} {F : Nat → Prop} (h : WrIs w A bs e0 F) (hb : bs.length ≤ 1000000000) : Calls Try.prog 28 #[.pointer (some ⟨A, 0, none⟩)] w fun e w' => ∃ v', e = .returned v' ∧ w'.ownsRow w.heap.size 5 1 v' bs.length (byteE.flat bs) ∧ Kept (fun _ => False) w w' := by
  obtain ⟨v, h1, h2, rfl⟩ := h
  have c0 : w.cell? ⟨A, 0, none⟩ = some v := h1.cell' rfl
  have hc := clone_bytes (owns_slAt h2) hb
  obtain ⟨va, vc, rfl⟩ := owns_sl h2
  clear h1 h2
  go_enter Try.func28, Try.ntmps28
  go_wp2_with fail
  refine hc.mono ?_
  rintro e w1 ⟨v', rfl, ho, hk⟩
  go_wp2_with fail
  go_ret
  exact ⟨_, rfl, ho, hk⟩
theorem werr_nil (w : World) : Calls Try.prog 31 #[.pointer none] w fun e w' => e = .returned (.int .i64 1) ∧ w = w' := by
  go_enter Try.func31, Try.ntmps31
  go_wp2_with fail
  go_ret
  exact ⟨rfl, rfl⟩
theorem werr_any {w : World} {A : Nat} {bs : List UInt8} {e0 : Int} {F : Nat → Prop} (h : WrIs w A bs e0 F) : Calls Try.prog 31 #[.pointer (some ⟨A, 0, none⟩)] w fun e w' => e = .returned (.int .i64 e0) ∧ w = w' := by
  obtain ⟨v, h1, h2, rfl⟩ := h
  have c1 : w.cell? ⟨A, 1, none⟩ = some (.int .i64 e0) := h1.cell' rfl
  clear h1 h2
  go_enter Try.func31, Try.ntmps31
  go_wp2_with fail
  go_ret
  exact ⟨rfl, rfl⟩
end Go.Proofs.Ytdbnohlignpeaaa.St
