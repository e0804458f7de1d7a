/- stamp.Reader.Text. -/
import Derived.Test.YtdbnohlignpeaaaStRead2
namespace Go.Proofs.Ytdbnohlignpeaaa.St
open Go.RowKit

def strOf (l : List UInt8) : ByteArray := ⟨l.toArray⟩
/-- a text out of bytes: the error, the text, what is left -/
def takeT (L : List UInt8) : Int × List UInt8 × List UInt8 :=
  if (takeN L 0 0).1 ≠ 0 then ((takeN L 0 0).1, [], L) else if (takeN L 0 0).2.2.length < (takeN L 0 0).2.1 then (5, [], L) else (0, (takeN L 0 0).2.2.take (takeN L 0 0).2.1, (takeN L 0 0).2.2.drop (takeN L 0 0).2.1)
theorem takeN_len : ∀ (L : List UInt8) (i v : Nat), (takeN L i v).2.2.length ≤ L.length
  | [], _, _ => by simp [takeN]
  | c :: r, i, v => by
    unfold takeN
    split
    · split
      · simp
      · have := takeN_len r (i + 1) (v + (c.toNat - 128) * 128 ^ i); simp only [List.length_cons]; omega
    · split <;> simp
theorem rtext_nil (w : World) : Calls Try.prog 55 #[.pointer none] w fun e w' => e = .returned (.string ByteArray.empty) ∧ w = w' := by
  go_enter Try.func55, Try.ntmps55
  go_wp2_with fail
  go_ret
  exact ⟨rfl, rfl⟩
theorem rtext_err {w : World} {A : Nat} {L : List UInt8} {e0 : Int} {F : Nat → Prop} (h : RdIs w A L e0 F) (he : e0 ≠ 0) : Calls Try.prog 55 #[.pointer (some ⟨A, 0, none⟩)] w fun e w' => e = .returned (.string ByteArray.empty) ∧ w = w' := by
  obtain ⟨v, h1, h2, h3, rfl⟩ := h
  have c1 : w.cell? ⟨A, 1, none⟩ = some (.int .i64 e0) := h1.cell' rfl
  have hb : (e0 != 0) = true := by simpa using he
  clear h1 h2 h3 he
  go_enter Try.func55, Try.ntmps55
  go_wp2_with fail
  go_ret
  exact ⟨rfl, rfl⟩
theorem byte_nums (l : List UInt8) : (l.map fun b => ((b.toNat : Nat) : Int)).map (fun n => UInt8.ofNat n.toNat) = l := by
  rw [List.map_map]
  conv => rhs; rw [← List.map_id l]
  apply List.map_congr_left
  intro b _
  show UInt8.ofNat ((b.toNat : Nat) : Int).toNat = b
  simp
theorem conv_bytes {w : World} {g o n c u : Nat} {L : List UInt8} (h : SlAt byteE w (.slice (some ⟨g, o, none⟩) L.length c) L) (hn : n ≤ L.length) :
    (convert 44 9 (.slice (some ⟨g, o, none⟩) n u)).run Try.prog w = .ok (.string (strOf (L.take n))) w := by
  have hr := run_convert_bytes_arg (P := Try.prog) w 44 5 Try.underlying44 Try.underlying5 g o n u ((L.take n).map fun b => ((b.toNat : Nat) : Int)) (by rw [List.length_map, List.length_take]; omega) (fun i hi => by
    obtain ⟨b, hb⟩ := get_of_lt (show i < L.length by omega)
    rcases h with ⟨h, _⟩ | ⟨x, d, h, h1, h2, h3, h4⟩
    · cases h
    · injection h with e1 _ e3
      injection e1 with e1
      subst e1
      have := h4 i b hb 0 _ rfl
      have e : (L.take n)[i]? = some b := by rw [List.getElem?_take, if_pos hi]; exact hb
      simp only [List.getD, List.getElem?_map, e, Option.map_some, Option.getD_some]
      simpa [byteE] using this) 9 Try.underlying9
  rw [hr]
  unfold strOfNums strOf
  rw [byte_nums]
theorem conv_none {w : World} {a : Option Addr} {u : Nat} : (convert 44 9 (.slice a 0 u)).run Try.prog w = .ok (.string (strOf [])) w := by
  cases a with
  | none => exact run_convert_bytes_nil (P := Try.prog) w 44 5 Try.underlying44 Try.underlying5 0 u 9 Try.underlying9
  | some x =>
    rw [run_convert_bytes_string w 44 9 5 _ 0 u Try.underlying44 Try.underlying5 Try.underlying9]
    rw [run_bytesToString w x 0 u [] (by simpa using run_loadCells_list (P := Try.prog) w x [] (by simp))]
    rfl
theorem rtext_ok {w : World} {A : Nat} {L : List UInt8} {F : Nat → Prop} (h : RdIs w A L 0 F) (hb : L.length ≤ 1000000000) :
    Calls Try.prog 55 #[.pointer (some ⟨A, 0, none⟩)] w fun e w' => e = .returned (.string (strOf (takeT L).2.1)) ∧ RdIs w' A (takeT L).2.2 (takeT L).1 F ∧ Kept (· = A) w w' := by
  have hnum := rnum_ok h hb
  have hle := takeN_len L 0 0
  unfold takeT
  obtain ⟨v, h1, h2, h3, hF⟩ := h
  obtain ⟨va, vc, rfl, _, _⟩ := h2.sl
  have c0 : w.cell? ⟨A, 0, none⟩ = some (.slice va L.length vc) := h1.cell' rfl
  have c1 : w.cell? ⟨A, 1, none⟩ = some (.int .i64 0) := h1.cell' rfl
  have H2 := Lib.hid h2
  have HF := Lib.hid hF
  generalize takeN L 0 0 = T at *
  obtain ⟨te, tv, tr⟩ := T
  simp only at hnum hle ⊢
  clear h1 h2 hF
  by_cases he : te = 0
  · subst he
    rw [if_neg (by simp)]
    simp only [if_true] at hnum
    by_cases hlong : tr.length < tv
    · rw [if_pos hlong]
      have hl' : (tr.length : Int) < tv := by omega
      go_enter Try.func55, Try.ntmps55
      go_wp2_with fail
      refine hnum.mono ?_
      rintro e w1 ⟨rfl, ⟨v1, g1, g2, g3, hF1⟩, hk⟩
      obtain ⟨a1, vc1, rfl, _, _⟩ := g2.sl
      have d0 : w1.cell? ⟨A, 0, none⟩ = some (.slice a1 tr.length vc1) := g1.cell' rfl
      have d1 : w1.cell? ⟨A, 1, none⟩ = some (.int .i64 0) := g1.cell' rfl
      have f0 := g1.frozen 0
      have f1 := g1.frozen 1
      have G1 := Lib.hid g1
      have HK := Lib.hid hk
      clear g1 g2 hk c0 c1 hF1
      go_wp2_with fail
      go_ret
      have hk2 : Kept (· = A) w ((w1.setCell ⟨A, 1, none⟩ (.int .i64 5)).setCell ⟨A, 0, none⟩ (.slice va L.length vc)) := (HK.out.setCell (p := ⟨A, 1, none⟩) (fun _ => rfl) _).setCell (p := ⟨A, 0, none⟩) (fun _ => rfl) _
      exact ⟨rfl, ⟨_, (G1.out.set_ 1 _).set_ 0 _, H2.out.keep hk2 (fun b hb _ e => h3 (e ▸ hb)), h3, HF.out⟩, hk2⟩
    · rw [if_neg hlong]
      have hl' : ¬ (tr.length : Int) < tv := by omega
      have htv : (tv : Int) ≤ tr.length := by omega
      have htv0 : (0 : Int) ≤ tv := by omega
      go_enter Try.func55, Try.ntmps55
      go_wp2_with fail
      refine hnum.mono ?_
      rintro e w1 ⟨rfl, ⟨v1, g1, g2, g3, hF1⟩, hk⟩
      obtain ⟨a1, vc1, rfl, hcap, _⟩ := g2.sl
      have d0 : w1.cell? ⟨A, 0, none⟩ = some (.slice a1 tr.length vc1) := g1.cell' rfl
      have d1 : w1.cell? ⟨A, 1, none⟩ = some (.int .i64 0) := g1.cell' rfl
      have f0 := g1.frozen 0
      have f1 := g1.frozen 1
      have G1 := Lib.hid g1
      have G2 := Lib.hid g2
      have HK := Lib.hid hk
      have HF1 := Lib.hid hF1
      clear hk c0 c1 hF1 hlong hl'
      rcases Nat.eq_zero_or_pos tv with rfl | htp
      · have hcv := fun u => conv_none (w := w1) (a := a1) (u := u)
        clear g1 g2
        go_wp2_with fail
        go_ret
        have hk2 : Kept (· = A) w1 (w1.setCell ⟨A, 0, none⟩ (.slice a1 tr.length vc1)) := Kept.setCell (Kept.refl (· = A) w1) (p := ⟨A, 0, none⟩) (fun _ => rfl) _
        exact ⟨rfl, ⟨_, G1.out.set_ 0 _, G2.out.keep hk2 (fun b hb _ e => g3 (e ▸ hb)), g3, HF1.out⟩, HK.out.trans hk2 (fun _ _ h => h)⟩
      · obtain ⟨g, o, c, e, _, _, _, _⟩ := G2.out.one (by omega)
        cases e
        have hcv := fun u => conv_bytes (u := u) g2 (show tv ≤ tr.length by omega)
        clear g1 g2
        by_cases hc1 : vc1 = tv
        · subst hc1
          have hLl : tr.length = vc1 := by omega
          have LL := Lib.hid hLl
          clear hLl
          go_wp2_with fail
          go_ret
          have H1' := G1.out
          have h3' := g3
          rw [← LL.out] at H1' h3'
          obtain ⟨R1, R2⟩ := rd_end H1' h3'
          rw [LL.out] at R1
          have hF' := HF1.out
          subst hF'
          exact ⟨rfl, R1, HK.out.trans R2 (fun _ _ h => h)⟩
        · go_wp2_with fail
          go_ret
          obtain ⟨R1, R2⟩ := rd_next G1.out G2.out g3 tv (by omega) _ (.inl rfl)
          have hF' := HF1.out
          subst hF'
          exact ⟨rfl, R1, HK.out.trans R2 (fun _ _ h => h)⟩
  · rw [if_pos (by simpa using he)]
    have hb1 : (te == 0) = false := by simpa using he
    have hb2 : (te != 0) = true := by simpa using he
    simp only [he, if_false] at hnum
    clear he
    go_enter Try.func55, Try.ntmps55
    go_wp2_with fail
    refine hnum.mono ?_
    rintro e w1 ⟨rfl, ⟨v1, g1, g2, g3, hF1⟩, hk⟩
    obtain ⟨a1, vc1, rfl, _, _⟩ := g2.sl
    have d0 : w1.cell? ⟨A, 0, none⟩ = some (.slice a1 L.length vc1) := g1.cell' rfl
    have d1 : w1.cell? ⟨A, 1, none⟩ = some (.int .i64 te) := g1.cell' rfl
    have f0 := g1.frozen 0
    have G1 := Lib.hid g1
    have HK := Lib.hid hk
    clear g1 g2 hk c0 c1 hF1
    go_wp2_with fail
    go_ret
    have hk2 : Kept (· = A) w (w1.setCell ⟨A, 0, none⟩ (.slice va L.length vc)) := HK.out.setCell (p := ⟨A, 0, none⟩) (fun _ => rfl) _
    exact ⟨rfl, ⟨_, G1.out.set_ 0 _, H2.out.keep hk2 (fun b hb _ e => h3 (e ▸ hb)), h3, HF.out⟩, hk2⟩
end Go.Proofs.Ytdbnohlignpeaaa.St
